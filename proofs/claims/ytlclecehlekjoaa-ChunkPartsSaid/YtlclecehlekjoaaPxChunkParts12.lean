import Derived.Test.YtlclecehlekjoaaPxChunkParts11
set_option linter.unusedVariables false
set_option linter.unusedSimpArgs false
namespace Go.Proofs.Ytlclecehlekjoaa.PvGE
open Go Go.Pv Go.Pv.GS Go.IntKind
def blen:Nat→Nat
 | 0=>0
 | n+1=>blen ((n+1) / 2)+1
decreasing_by omega
def cls (k:Nat):Nat:=if k≤0 then 0 else if k≤3 then 1 else if k≤7 then 2 else if k≤12 then 3 else if k≤20 then 4 else if k≤32 then 5 else 6
def wid:Nat→Nat
 | 0=>0 | 1=>3 | 2=>7 | 3=>12 | 4=>20 | 5=>32 | _=>64
def cnt2 (n:Nat):List Bool:=List.replicate (cls (blen n)) true++((if cls (blen n)<6 then [false] else [])++nb n (wid (cls (blen n))))
end Go.Proofs.Ytlclecehlekjoaa.PvGE
set_option linter.unusedVariables false
set_option linter.unusedSimpArgs false
namespace Go.Proofs.Ytlclecehlekjoaa.PvGE
open Go Go.Pv Go.Pv.GS Go.IntKind
structure Src (b:List Int):Prop where
 byte:∀ x∈b,Byte x
 len:b.length<100000000
variable {b:List Int}
end Go.Proofs.Ytlclecehlekjoaa.PvGE
set_option linter.unusedVariables false
set_option linter.unusedSimpArgs false
set_option maxRecDepth 10000
namespace Go.Proofs.Ytlclecehlekjoaa.PvGE
open Go Go.Pv Go.Pv.GS Go.IntKind
def RSp:Bool→List Z1h→Prop
 | _,[]=>True
 | true,s::r=>s.f0=0∧1≤s.f1∧s.f1≤512∧RSp false r
 | false,s::r=>1≤s.f0∧s.f0≤524288∧1≤s.f1∧s.f1≤512∧RSp false r
theorem RSp.len {f:Bool} {s:Z1h} {r:List Z1h} (h:RSp f (s::r)):1≤s.f1∧s.f1≤512∧RSp false r:=by
 cases f
 ·exact h.2.2
 ·exact h.2
def Ids (l:List Int):Prop:=Inc l∧∀ i∈l,-262144≤i∧i≤262144
theorem Ids.sm {l:List Int} (h:Ids l):Sm l:=fun i hi=>by have:=h.2 i hi;omega
end Go.Proofs.Ytlclecehlekjoaa.PvGE
set_option linter.unusedVariables false
set_option linter.unusedSimpArgs false
set_option maxRecDepth 10000
namespace Go.Proofs.Ytlclecehlekjoaa.PvGE
open Go Go.Pv Go.Pv.GS Go.IntKind
variable {b:List Int}
structure LOk (L:Zb):Prop where
 sp:SpOk L.f1
 first : -262144≤L.f0∧L.f0≤262144
 len:slen L.f1≤512
end Go.Proofs.Ytlclecehlekjoaa.PvGE
set_option linter.unusedVariables false
set_option linter.unusedSimpArgs false
namespace Go.Proofs.Ytlclecehlekjoaa.PvGE
open Go Go.Pv Go.Pv.GS Go.IntKind
def cnt (l:List Z2):Int:=(l.map (·.f1)).sum
theorem Z1a {l:List Z2} (h:Nn l):0≤cnt l:=Z43 (fun x hx=>by
 obtain⟨b,hb,rfl⟩:=List.mem_map.1 hx;exact h b hb)
theorem Z3h (b:Z2) (l:List Z2):cnt (b::l)=b.f1+cnt l:=by simp[cnt]
theorem Z7y (a b:List Z2):cnt (a++b)=cnt a+cnt b:=by simp[cnt]
theorem total_l1 (a0:List (List Z2)) (x769:Int) (l:List Z2) (hl:l.length<1000000000):∀ (suf pre:List Z2) (acc i:Int),l=pre++suf→i=(pre.length:Int)→U64 acc→(∀ b∈suf,U64 b.f1) →
  Z06.l1 a0 l x769 acc i=some (if acc+cnt suf<18446744073709551616 then .inr (acc+cnt suf) else .inl (0,5)):=by
 intro suf
 induction suf with
 | nil =>
  intro pre acc i h1 hi ha hs
  subst h1
  rw[Z06.l1,if_neg (by simp[hi])]
  simp[cnt,ha.2]
 | cons x suf ih =>
  intro pre acc i h1 hi ha hs
  have hx:=hs x (by simp)
  have hs':∀ y∈suf,U64 y.f1:=fun y hy=>hs y (by simp[hy])
  have hnn:0≤cnt suf:=Z1a (fun y hy=>(hs' y hy).1)
  have hlen:(l.length:Int)=pre.length+(suf.length+1):=by rw[h1];simp
  rw[Z06.l1,if_pos (by simp;omega),Z2r h1 hi,sb,num_add2 ha hx,sb,Zu (by omega) (by omega),Z3h]
  by_cases hov:acc+x.f1<18446744073709551616
  ·rw[if_pos hov,if_neg (by simp),ih (pre++[x]) (acc+x.f1) (i+1) (by simp[h1]) (by simp;omega) ⟨by omega,hov⟩ hs',Int.add_assoc]
  ·rw[if_neg hov,if_pos (by simp),if_neg (by omega)]
theorem total_l0 (a0:List (List Z2)) (ha0:a0.length<1000000000):∀ (suf pre:List (List Z2)) (acc i:Int),a0=pre++suf→i=(pre.length:Int)→U64 acc→(∀ l∈suf,l.length<1000000000∧∀ b∈l,U64 b.f1) →
  Z06.l0 a0 acc i=some (if acc+(suf.map cnt).sum<18446744073709551616 then .inr (acc+(suf.map cnt).sum) else .inl (0,5)):=by
 intro suf
 induction suf with
 | nil =>
  intro pre acc i h1 hi ha hs
  subst h1
  rw[Z06.l0,if_neg (by simp[hi])]
  simp[ha.2]
 | cons x suf ih =>
  intro pre acc i h1 hi ha hs
  have hx:=hs x (by simp)
  have hs':∀ l∈suf,l.length<1000000000∧∀ b∈l,U64 b.f1:=fun y hy=>hs y (by simp[hy])
  have hx0:0≤cnt x:=Z1a (fun y hy=>(hx.2 y hy).1)
  have hnn:0≤(suf.map cnt).sum:=Z43 (fun y hy=>by
   obtain⟨l,hl,rfl⟩:=List.mem_map.1 hy;exact Z1a (fun y hy=>((hs' l hl).2 y hy).1))
  have hlen:(a0.length:Int)=pre.length+(suf.length+1):=by rw[h1];simp
  rw[Z06.l0,if_pos (by simp;omega),Z2r h1 hi,sb,total_l1 a0 i x hx.1 x [] acc 0 rfl rfl ha hx.2,sb,Zu (by omega) (by omega),List.map_cons,List.sum_cons]
  by_cases hov:acc+cnt x<18446744073709551616
  ·rw[if_pos hov]
   simp only[]
   rw[ih (pre++[x]) (acc+cnt x) (i+1) (by simp[h1]) (by simp;omega) ⟨by omega,hov⟩ hs',Int.add_assoc]
  ·rw[if_neg hov,if_neg (by omega)]
theorem total3 (p n:List Z2) (z:Int) (hp:p.length<1000000000) (hn:n.length<1000000000) (hpU:∀ b∈p,U64 b.f1) (hnU:∀ b∈n,U64 b.f1) (hz:U64 z) :
  Z06.f [p,n,[(⟨0,z⟩:Z2)]]=some (if cnt p+cnt n+z<18446744073709551616 then(cnt p+cnt n+z,0) else(0,5)):=by
 unfold Z06.f
 rw[total_l0 [p,n,[(⟨0,z⟩:Z2)]] (by simp) [p,n,[(⟨0,z⟩:Z2)]] [] 0 0 rfl rfl (by omega) (by
  intro l hl
  simp only[List.mem_cons,List.not_mem_nil,or_false] at hl
  rcases hl with rfl | rfl | rfl
  ·exact⟨hp,hpU⟩
  ·exact⟨hn,hnU⟩
  ·exact⟨by simp,by simp;exact hz⟩),sb]
 have e:0+(([p,n,[(⟨0,z⟩:Z2)]]:List (List Z2)).map cnt).sum=cnt p+cnt n+z:=by simp[cnt];omega
 rw[e]
 by_cases h:cnt p+cnt n+z<18446744073709551616
 ·rw[if_pos h,if_pos h]
 ·rw[if_neg h,if_neg h]
theorem right_eq (s:Int):Zq.f s=some (decide (-4≤s)&&decide (s≤8)):=by
 unfold Zq.f
 rw[ifand];rfl
def Z1k (s:Int):Prop:=-4≤s∧s≤8
instance (s:Int):Decidable (Z1k s):=inferInstanceAs (Decidable (_∧_))
theorem Z4d {s:Int} (h:Z1k s):Zq.f s=some true:=by rw[right_eq];simp[h.1,h.2]
theorem right_F {s:Int} (h:¬ Z1k s):Zq.f s=some false:=by rw[right_eq];simp[Z1k] at h ⊢;omega
def stp (s:Int):Int:=2 ^ (8-s).toNat
theorem Z3l (s:Int):0<stp s:=by unfold stp;exact Int.pow_pos (by omega)
theorem stp_le {s:Int} (h:Z1k s):stp s≤4096:=by
 have h1:=h.1
 have h2:=h.2
 have:s = -4∨s = -3∨s = -2∨s = -1∨s=0∨s=1∨s=2∨s=3∨s=4∨s=5∨s=6∨s=7∨s=8:=by omega
 rcases this with rfl | rfl | rfl | rfl | rfl | rfl | rfl | rfl | rfl | rfl | rfl | rfl | rfl<;>decide
theorem shift_eq {s:Int} (h:Z1k s):min (Int.toNat (u64.wrap (i64.wrap ((8:Int)-s)))) 64=(8-s).toNat:=by
 have h1:=h.1
 have h2:=h.2
 rw[Zu (by omega) (by omega),wrapU (by omega) (by omega)];omega
theorem most_T {s:Int} (h:Z1k s):Z25.f s=some (262144 / stp s):=by
 unfold Z25.f Z1t.f
 rw[Z4d h,sb,if_neg (by simp),sb,chkB (u64_wrap _).1,shift_eq h,Int.fdiv_eq_ediv_of_nonneg _ (by exact Int.le_of_lt (Z3l s))]
 rfl
theorem units_T {s i:Int} (h:Z1k s) (hi : -1000000000000<i∧i<1000000000000):Z0v.f s i=some (i*stp s):=by
 unfold Z0v.f Z1t.f
 rw[Z4d h,sb,if_neg (by simp),sb,chkB (u64_wrap _).1,shift_eq h]
 have h1:=Z3l s
 have h2:=stp_le h
 have h3:i*stp s≤1000000000000*4096:=by
  by_cases h0:0≤i
  ·exact Int.mul_le_mul (by omega) h2 (by omega) (by omega)
  ·have:i*stp s≤0:=Int.mul_nonpos_of_nonpos_of_nonneg (by omega) (by omega);omega
 have h4 : -(1000000000000*4096)≤i*stp s:=by
  by_cases h0:0≤i
  ·have:0≤i*stp s:=Int.mul_nonneg h0 (by omega);omega
  ·have : -i*stp s≤1000000000000*4096:=Int.mul_le_mul (by omega) h2 (by omega) (by omega)
   rw[Int.neg_mul] at this;omega
 show some (i64.wrap (i*stp s))=_
 rw[Zu (by omega) (by omega)]
theorem Z7d (h:Zj):Z02.l0 h 0=((Z01.f h h.f6)>>=fun t=>if(t != (0:Int))=true then some (.inl t) else(Z01.f h h.f7)>>=fun t=>if(t != (0:Int))=true then some (.inl t) else some (.inr ())):=by
 have w1:i64.wrap (0+1)=1:=by decide
 have w2:i64.wrap (1+1)=2:=by decide
 rw[Z02.l0,if_pos (by decide),chkB (by omega),if_pos (by decide),sb,w1]
 congr 1
 funext t
 split
 ·rfl
 ·rw[         Z02.l0,if_pos (by decide),chkB (by omega),if_neg (by decide),sb,w2]
  congr 1
  funext t
  split
  ·rfl
  ·rw[Z02.l0,if_neg (by decide)]
structure Fits (h:Zj):Prop where
 kind:I64 h.f0
 schema:I64 h.f1
 zeroAt:I64 h.f2
 zero:U64 h.f3
 count:U64 h.f4
 sum:I64 h.f5
 pos:∀ b∈h.f6,I64 b.f0∧U64 b.f1
 neg:∀ b∈h.f7,I64 b.f0∧U64 b.f1
theorem fits_of {h:Zj} (r:RHist h):Fits h:=⟨r.r0,r.r1,r.r2,r.r3,r.r4,r.r5,fun b hb=>let q:=r.r6.2 b hb;⟨q.r0,q.r1⟩,fun b hb=>let q:=r.r7.2 b hb;⟨q.r0,q.r1⟩⟩
end Go.Proofs.Ytlclecehlekjoaa.PvGE
set_option linter.unusedVariables false
set_option linter.unusedSimpArgs false
namespace Go.Proofs.Ytlclecehlekjoaa.PvGE
open Go Go.Pv Go.Pv.GS Go.IntKind
theorem stp_dvd {s:Int} (h:Z1k s):262144 / stp s*stp s=262144:=by
 have h1:=h.1
 have h2:=h.2
 have:s = -4∨s = -3∨s = -2∨s = -1∨s=0∨s=1∨s=2∨s=3∨s=4∨s=5∨s=6∨s=7∨s=8:=by omega
 rcases this with rfl | rfl | rfl | rfl | rfl | rfl | rfl | rfl | rfl | rfl | rfl | rfl | rfl<;>decide
def InS (s i:Int):Prop:=-262144<i*stp s∧i*stp s≤262144
instance (s i:Int):Decidable (InS s i):=inferInstanceAs (Decidable (_∧_))
theorem inS_iff {s i:Int} (h:Z1k s):InS s i ↔ -(262144 / stp s)+1≤i∧i≤262144 / stp s:=by
 have hp:=Z3l s
 have hd:=stp_dvd h
 unfold InS
 generalize 262144 / stp s=q at *
 generalize stp s=st at *
 constructor
 ·rintro⟨h1,h2⟩
  constructor
  ·have : -q*st<i*st:=by rw[Int.neg_mul];omega
   have:=Int.lt_of_mul_lt_mul_right this (Int.le_of_lt hp);omega
  ·have:i*st≤q*st:=by omega
   exact Int.le_of_mul_le_mul_right this hp
 ·rintro⟨h1,h2⟩
  constructor
  ·have:=Int.mul_lt_mul_of_pos_right (show -q<i by omega) hp
   rw[Int.neg_mul] at this;omega
  ·have:=Int.mul_le_mul_of_nonneg_right h2 (Int.le_of_lt hp);omega
theorem Z3s {s i:Int} (hi:InS s i) : -262144<i∧i≤262144:=by
 have hp:=Z3l s
 obtain⟨h1,h2⟩:=hi
 constructor
 ·by_cases h:i ≤ -262144
  ·have:=Int.mul_le_mul_of_nonneg_right h (Int.le_of_lt hp)
   have h3 : -262144*stp s ≤ -262144*1:=by
    have:=Int.mul_le_mul_of_nonneg_left (show 1≤stp s by omega) (show(0:Int)≤262144 by omega)
    omega
   omega
  ·omega
 ·by_cases h:262144<i
  ·have:=Int.mul_le_mul_of_nonneg_right (show 262145≤i by omega) (Int.le_of_lt hp)
   have h3:=Int.mul_le_mul_of_nonneg_left (show 1≤stp s by omega) (show(0:Int)≤262145 by omega)
   omega
  ·omega
theorem in_T {s i:Int} (h:Z1k s):Z2m.f s i=some (decide (InS s i)):=by
 have hp:=Z3l s
 have hq:0≤262144 / stp s∧262144 / stp s≤262144:=⟨Int.ediv_nonneg (by omega) (by omega),Int.ediv_le_self _ (by omega)⟩
 unfold Z2m.f Z2a.f
 rw[Z4d h,most_T h]
 simp only[sb,if_pos]
 rw[Zu (n:=0-_) (by omega) (by omega),Zu (by omega) (by omega),ifand,sb]
 congr 1
 rw[← Bool.decide_and,decide_eq_decide,inS_iff h]
 constructor<;>intro h<;>constructor<;>omega
theorem low_T {s i:Int} (h:Z1k s) (hi:InS s i):Z27.f s i=some ((i-1)*stp s):=by
 have:=Z3s hi
 unfold Z27.f
 rw[Zu (by omega) (by omega),units_T h (by omega)];rfl
theorem units_in {s i:Int} (h:Z1k s) (hi:InS s i):Z0v.f s i=some (i*stp s):=by
 have:=Z3s hi
 exact units_T h (by omega)
end Go.Proofs.Ytlclecehlekjoaa.PvGE
set_option linter.unusedVariables false
set_option linter.unusedSimpArgs false
namespace Go.Proofs.Ytlclecehlekjoaa.PvGE
open Go Go.Pv Go.Pv.GS Go.IntKind
structure BOk (s z:Int) (b:Z2):Prop where
 ins:InS s b.f0
 pos:0<b.f1
 low:z≤(b.f0-1)*stp s
def Up:Option Int→List Z2→Prop
 | _,[]=>True
 | p,b::l=>(∀ q,p=some q→q<b.f0)∧Up (some b.f0) l
theorem up_iff:∀ (l:List Z2) (p:Option Int),Up p l↔(∀ q,p=some q→∀ b∈l,q<b.f0)∧l.Pairwise (fun a b=>a.f0<b.f0)
 | [],p=>by simp[Up]
 | x::l,p=>by
  rw[Up,up_iff l,List.pairwise_cons]
  constructor
  ·rintro⟨h1,h2,h3⟩
   refine⟨fun q hq b hb => ?_,fun b hb=>h2 _ rfl b hb,h3⟩
   have h4:=h1 q hq
   rcases List.mem_cons.1 hb with rfl | hb
   ·exact h4
   ·have:=h2 _ rfl b hb;omega
  ·rintro⟨h1,h2,h3⟩
   exact⟨fun q hq=>h1 q hq x (by simp),fun q hq b hb=>by cases hq;exact h2 b hb,h3⟩
structure Side (s z:Int) (l:List Z2):Prop where
 len:l.length≤512
 ok:∀ b∈l,BOk s z b
 up:l.Pairwise (fun a b=>a.f0<b.f0)
theorem Side.canon {s z:Int} {l:List Z2} (h:Side s z l):Z49 l:=⟨h.up,fun b hb=>(h.ok b hb).pos⟩
structure Z2d (h:Zj):Prop where
 kind:h.f0=0∨h.f0=1
 schema:Z1k h.f1
 zero:h.f2 = -524288∨(-262144<h.f2∧h.f2≤262144)
 pos:Side h.f1 h.f2 h.f6
 neg:Side h.f1 h.f2 h.f7
 total:cnt h.f6+cnt h.f7+h.f3<18446744073709551616
 count:h.f4=cnt h.f6+cnt h.f7+h.f3
theorem last_pre {l pre:List Z2} {x:Z2} {suf:List Z2} {i:Int} (h1:l=pre++x::suf) (hi:i=(pre.length:Int)) (h0:0<i) (hl:l.length<1000000000) :
  ∃ q,(pre.getLast?).map (·.f0)=some q∧∃ y,at? l (i64.wrap (i-1))=some y∧y.f0=q:=by
 rcases List.eq_nil_or_concat pre with rfl | ⟨P,p,rfl⟩
 ·simp at hi;omega
 ·simp only[List.concat_eq_append] at *
  have hlen:l.length=P.length+1+(suf.length+1):=by rw[h1];simp;omega
  have hi2:i=(P.length:Int)+1:=by rw[hi];simp
  rw[Zu (by omega) (by omega)]
  exact⟨p.f0,by simp,p,Z2r (pre:=P) (suf:=x::suf) (by simp[h1]) (by omega),rfl⟩
theorem no_pre {pre:List Z2} {i:Int} (hi:i=(pre.length:Int)) (h0:¬ 0<i):(pre.getLast?).map (·.f0)=none:=by
 have:pre=[]:=List.length_eq_zero_iff.1 (by omega)
 subst this;rfl
theorem buckets_l0 (h:Zj) (l:List Z2) (hs:Z1k h.f1) (hl:l.length<1000000000):∀ (suf pre:List Z2) (i:Int),l=pre++suf→i=(pre.length:Int)→(∀ b∈suf,U64 b.f1) →
  ∃ r,Z01.l0 h l i=some r∧(∀ c,r = .inl c→c≠0)∧(r = .inr ()↔(∀ b∈suf,BOk h.f1 h.f2 b)∧Up ((pre.getLast?).map (·.f0)) suf):=by
 intro suf
 induction suf with
 | nil =>
  intro pre i h1 hi _
  subst h1
  rw[Z01.l0,if_neg (by simp[hi])]
  exact⟨_,rfl,by simp,by simp[Up]⟩
 | cons x suf ih =>
  intro pre i h1 hi hU
  have hx:=hU x (by simp)
  have hlen:(l.length:Int)=pre.length+(suf.length+1):=by rw[h1];simp
  rw[Z01.l0,if_pos (by simp;omega),Z2r h1 hi,sb,in_T hs,sb]
  by_cases c1:InS h.f1 x.f0
  case neg =>
   rw[if_pos (by simp[c1])]
   exact⟨_,rfl,by simp,by simp;intro h;exact absurd h.ins c1⟩
  rw[if_neg (by simp[c1])]
  have hprev:∃ c:Bool,((if(decide (i>(0:Int)))=true then((at? l (i64.wrap (i-(1:Int))))>>=fun b922=>some (decide (b922.f0≥x.f0))) else(some false)):Option (Bool))=some c∧(c=false↔∀ q,(pre.getLast?).map (·.f0)=some q→q<x.f0):=by
   by_cases h0:0<i
   ·obtain⟨q,e1,y,e2,e3⟩:=last_pre h1 hi h0 hl
    rw[if_pos (by simpa using h0),e2,sb]
    exact⟨_,rfl,by rw[e1,e3];simp⟩
   ·rw[if_neg (by simpa using h0)]
    exact⟨_,rfl,by rw[no_pre hi h0];simp⟩
  obtain⟨c,ec,hc⟩:=hprev
  rw[ec,sb,low_T hs c1]
  cases c with
  | true =>
   rw[if_pos rfl]
   refine⟨_,rfl,by simp,by simp;intro _ _ h2;exact absurd (hc.2 h2.1) (by simp)⟩
  | false =>
   rw[if_neg (by simp)]
   by_cases c2:x.f1=0
   ·rw[if_pos (by simpa using c2)]
    exact⟨_,rfl,by simp,by simp;intro h;have:=h.pos;omega⟩
   rw[if_neg (by simpa using c2),sb]
   by_cases c3:(x.f0-1)*stp h.f1<h.f2
   ·rw[if_pos (by simpa using c3)]
    exact⟨_,rfl,by simp,by simp;intro h;have:=h.low;omega⟩
   rw[if_neg (by simpa using c3),Zu (n:=i+1) (by omega) (by omega)]
   obtain⟨r,e,e1,e2⟩:=ih (pre++[x]) (i+1) (by simp[h1]) (by simp;omega) (fun b hb=>hU b (by simp[hb]))
   refine⟨r,e,e1,?_⟩
   rw[e2]
   simp only[List.getLast?_append,List.getLast?_singleton,Option.some_or,Option.map_some,Up,List.forall_mem_cons]
   have hb:BOk h.f1 h.f2 x:=⟨c1,by omega,by omega⟩
   constructor
   ·rintro⟨a,b⟩;exact⟨⟨hb,a⟩,hc.1 rfl,b⟩
   ·rintro⟨⟨_,a⟩,_,b⟩;exact⟨a,b⟩
theorem Z5a (h:Zj) (l:List Z2) (hs:Z1k h.f1) (hl:l.length<1000000000) (hU:∀ b∈l,U64 b.f1):∃ r,Z01.f h l=some r∧(r=0↔Side h.f1 h.f2 l):=by
 unfold Z01.f
 by_cases h0:l.length>512
 ·rw[if_pos (by simp;omega)]
  exact⟨_,rfl,by simp;intro h;have:=h.len;omega⟩
 ·rw[if_neg (by simp;omega)]
  obtain⟨r,e,e1,e2⟩:=buckets_l0 h l hs hl l [] 0 rfl rfl hU
  rw[e,sb]
  cases r with
  | inl c =>
   refine⟨c,rfl,?_⟩
   constructor
   ·intro h;exact absurd h (e1 c rfl)
   ·intro h
    exact absurd (e2.2 ⟨h.ok,(up_iff l _).2 ⟨by simp,h.up⟩⟩) (by simp)
  | inr u =>
   refine⟨0,rfl,?_⟩
   obtain⟨h1,h2⟩:=e2.1 rfl
   exact⟨fun _=>⟨by omega,h1,((up_iff l _).1 h2).2⟩,fun _=>rfl⟩
theorem check_iff (h:Zj) (hf:Fits h) (hp:h.f6.length<1000000000) (hn:h.f7.length<1000000000):∃ r,Z02.f h=some r∧(r=0↔Z2d h):=by
 unfold Z02.f
 have hk:((if(h.f0 != (0:Int))=true then(some (h.f0 != (1:Int))) else(some false)):Option (Bool))=some (!decide (h.f0=0∨h.f0=1)):=by
  by_cases h1:h.f0=0
  ·simp[h1]
  ·by_cases h2:h.f0=1<;>simp[h1,h2]
 rw[hk,sb]
 by_cases c1:h.f0=0∨h.f0=1
 case neg=>rw[if_pos (by simpa using c1)];exact⟨_,rfl,by simp;intro h;exact c1 h.kind⟩
 rw[if_neg (by rw[decide_eq_true c1];decide)]
 by_cases c2:Z1k h.f1
 case neg=>rw[right_F c2,sb,if_pos (by simp)];exact⟨_,rfl,by simp;intro h;exact c2 h.schema⟩
 rw[Z4d c2,sb,if_neg (by simp)]
 have hz:((if(h.f2 != (-524288))=true then(if(decide (h.f2≤(-262144)))=true then(some true) else(some (decide (h.f2>(262144:Int))))) else(some false)):Option (Bool))=some (!decide (h.f2 = -524288∨(-262144<h.f2∧h.f2≤262144))):=by
  by_cases h1:h.f2 = -524288
  ·simp[h1]
  ·by_cases h2:h.f2 ≤ -262144
   ·simp[h1,h2]
   ·have h4 : -262144<h.f2:=by omega
    by_cases h3:h.f2≤262144
    ·simp[h1,h2,h3,h4]
    ·simp[h1,h2,h3,h4];omega
 rw[hz,sb]
 by_cases c3:h.f2 = -524288∨(-262144<h.f2∧h.f2≤262144)
 case neg=>rw[if_pos (by simp[c3])];exact⟨_,rfl,by simp;intro h;exact c3 h.zero⟩
 rw[if_neg (by simp[c3])]
 obtain⟨r1,e1,i1⟩:=Z5a h h.f6 c2 hp (fun b hb=>(hf.pos b hb).2)
 obtain⟨r2,e2,i2⟩:=Z5a h h.f7 c2 hn (fun b hb=>(hf.neg b hb).2)
 rw[Z7d,e1,e2,sb,sb]
 by_cases d1:r1=0
 case neg=>rw[if_pos (by simpa using d1),sb];exact⟨_,rfl,⟨fun h=>absurd h d1,fun h=>absurd (i1.2 h.pos) d1⟩⟩
 rw[if_neg (by simpa using d1)]
 by_cases d2:r2=0
 case neg=>rw[if_pos (by simpa using d2),sb];exact⟨_,rfl,⟨fun h=>absurd h d2,fun h=>absurd (i2.2 h.neg) d2⟩⟩
 rw[if_neg (by simpa using d2),sb]
 simp only[]
 rw[total3 _ _ _ hp hn (fun b hb=>(hf.pos b hb).2) (fun b hb=>(hf.neg b hb).2) hf.zero,sb]
 by_cases c4:cnt h.f6+cnt h.f7+h.f3<18446744073709551616
 case neg=>rw[if_neg c4,if_pos (by simp)];exact⟨_,rfl,by simp;intro h;exact c4 h.total⟩
 rw[if_pos c4,if_neg (by simp)]
 by_cases c5:cnt h.f6+cnt h.f7+h.f3=h.f4
 ·rw[if_neg (by simpa using c5)]
  exact⟨0,rfl,fun _=>⟨c1,c2,c3,i1.1 d1,i2.1 d2,c4,c5.symm⟩,fun _=>rfl⟩
 ·rw[if_pos (by simpa using c5)]
  exact⟨_,rfl,by simp;intro h;exact c5 h.count.symm⟩
theorem check_T (h:Zj) (hf:Fits h) (hv:Z2d h):Z02.f h=some 0:=by
 have hl:=hv.pos.len
 have hl2:=hv.neg.len
 obtain⟨r,e,i⟩:=check_iff h hf (by omega) (by omega)
 rw[e,i.2 hv]
end Go.Proofs.Ytlclecehlekjoaa.PvGE
set_option linter.unusedVariables false
set_option linter.unusedSimpArgs false
namespace Go.Proofs.Ytlclecehlekjoaa.PvGE
open Go Go.Pv Go.Pv.GS Go.IntKind
open Classical
def wsum (l:List Z2) (w:Int→Int):Int:=(l.map (fun b=>b.f1*w b.f0)).sum
theorem Z5c (b:Z2) (l:List Z2) (w:Int→Int):wsum (b::l) w=b.f1*w b.f0+wsum l w:=by simp[wsum]
theorem wsum_append (a b:List Z2) (w:Int→Int):wsum (a++b) w=wsum a w+wsum b w:=by simp[wsum]
theorem wsum_split (l:List Z2) (i:Int) (w:Int→Int):wsum l w=tot l i*w i+wsum (l.filter (fun b=>decide (b.f0≠i))) w:=by
 induction l with
 | nil=>simp[wsum,tot]
 | cons b l ih =>
  rw[Z5c,ih,tot]
  by_cases h:b.f0=i
  ·subst h;simp[Int.add_mul];omega
  ·rw[if_neg h,List.filter_cons_of_pos (by simpa using h),Z5c,Int.zero_add];omega
theorem Z5v (l:List Z2) (p:Int→Bool) (i:Int):tot (l.filter (fun b=>p b.f0)) i=if p i=true then tot l i else 0:=by
 induction l with
 | nil=>simp[tot]
 | cons b l ih =>
  by_cases h:p b.f0=true
  ·rw[List.filter_cons_of_pos (by simpa using h),tot,ih,tot]
   by_cases e:b.f0=i
   ·subst e;simp[h]
   ·simp[e]
  ·rw[List.filter_cons_of_neg (by simpa using h),ih,tot]
   by_cases e:b.f0=i
   ·subst e;simp[h]
   ·simp[e]
theorem wsum_zero:∀ (n:Nat) (l:List Z2),l.length≤n→(∀ i,tot l i=0)→∀ w,wsum l w=0:=by
 intro n
 induction n with
 | zero =>
  intro l hn _ w
  obtain rfl:l=[]:=List.length_eq_zero_iff.1 (by omega)
  rfl
 | succ n ih =>
  intro l hn h w
  cases l with
  | nil=>rfl
  | cons b l =>
   rw[wsum_split _ b.f0,h,Int.zero_mul,Int.zero_add]
   refine ih _ ?_ (fun i => ?_) w
   ·rw[List.filter_cons_of_neg (by simp)]
    have:=List.length_filter_le (fun b':Z2=>decide (b'.f0≠b.f0)) l
    simp only[List.length_cons] at hn;omega
   ·have:=Z5v        (b::l) (fun j=>decide (j≠b.f0)) i
    rw[this,h];simp
def negl (l:List Z2):List Z2:=l.map (fun b=>⟨b.f0,-b.f1⟩)
theorem tot_negl (l:List Z2) (i:Int):tot (negl l) i = - tot l i:=by
 induction l with
 | nil=>rfl
 | cons b l ih=>simp only[negl,List.map_cons,tot] at *;rw[ih];split<;>omega
theorem Z6q (l:List Z2) (w:Int→Int):wsum (negl l) w = - wsum l w:=by
 induction l with
 | nil=>rfl
 | cons b l ih=>rw[negl,List.map_cons,Z5c,Z5c];rw[negl] at ih;rw[ih];simp[Int.neg_mul];omega
theorem wsum_congr {l l':List Z2} (h:∀ i,tot l i=tot l' i) (w:Int→Int):wsum l w=wsum l' w:=by
 have:=wsum_zero _ (l++negl l') (Nat.le_refl _) (fun i=>by rw[Z2b,tot_negl,h];omega) w
 rw[wsum_append,Z6q] at this;omega
theorem Z4t (l:List Z2):cnt l=wsum l (fun _=>1):=by simp[cnt,wsum]
theorem Z7c {l l':List Z2} (h:∀ i,tot l i=tot l' i):cnt l=cnt l':=by rw[Z4t,Z4t,wsum_congr h]
theorem Z7k {l:List Z2} (h:Nn l) (i:Int):tot l i≤cnt l:=by
 induction l with
 | nil=>simp[tot,cnt]
 | cons b l ih =>
  have:=h b (by simp)
  have h2:Nn l:=fun y hy=>h y (by simp[hy])
  have:=ih h2
  have:=Z1a h2
  rw[tot,Z3h];split<;>omega
theorem Z7x (l:List Z2) (p:Z2→Bool):cnt (l.filter p)+cnt (l.filter (fun b => !p b))=cnt l:=by
 induction l with
 | nil=>rfl
 | cons b l ih =>
  cases h:p b with
  | true=>rw[List.filter_cons_of_pos h,List.filter_cons_of_neg (by simp[h]),Z3h,Z3h];omega
  | false=>rw[List.filter_cons_of_neg (by simp[h]),List.filter_cons_of_pos (by simp[h]),Z3h,Z3h];omega
structure Bs (s z:Int) (l:List Z2):Prop where
 len:l.length≤5000
 ok:∀ b∈l,InS s b.f0∧0≤b.f1∧z≤(b.f0-1)*stp s
theorem Bs.nn {s z:Int} {l:List Z2} (h:Bs s z l):Nn l:=fun b hb=>(h.ok b hb).2.1
theorem le_cnt {l:List Z2} (h:Nn l) {b:Z2} (hb:b∈l):b.f1≤cnt l:=Int.le_trans (tot_mem h hb) (Z7k h _)
theorem tidy_ok {s z:Int} {l:List Z2} (h:Bs s z l) (ht:cnt l<18446744073709551616) :
  ∃ o,Z0i.f l=some (o,0)∧Z49 o∧(∀ i,tot o i=tot l i)∧(∀ b∈o,BOk s z b)∧(∀ b∈o,U64 b.f1)∧o.length≤l.length∧cnt o=cnt l:=by
 have hl:=h.len
 rcases tidy_spec l (by omega) (fun b hb=>⟨h.nn b hb,by have:=le_cnt h.nn hb;omega⟩) with ⟨o,e,h1,h2,h3,h4,h5⟩ | ⟨e,i,h1⟩
 ·refine⟨o,e,h1,h2,fun b hb => ?_,h3,h5,Z7c       h2⟩
  obtain⟨p,hp,e⟩:=h4 b hb
  have:=h.ok p hp
  exact⟨e ▸ this.1,h1.pos b hb,e ▸ this.2.2⟩
 ·have:=Z7k h.nn i;omega
theorem inS_i64 {s i:Int} (h:InS s i):I64 i:=by have:=Z3s h;constructor<;>omega
theorem Z7s (g:Zj) (p n:List Z2) (hk:g.f0=0∨g.f0=1) (hs:Z1k g.f1) (hz:g.f2 = -524288∨(-262144<g.f2∧g.f2≤262144)) (h3:0≤g.f3) (h5:I64 g.f5)
  (hp:Bs g.f1 g.f2 p) (hn:Bs g.f1 g.f2 n) (ht:cnt p+cnt n+g.f3<18446744073709551616) (hl:∀ o,Z49 o→(((∀ i,tot o i=tot p i)∧o.length≤p.length)∨((∀ i,tot o i=tot n i)∧o.length≤n.length))→o.length≤512) :
  ∃ r,Z1x.f g p n=some (r,0)∧Z2d r∧Fits r∧r.f0=g.f0∧r.f1=g.f1∧r.f2=g.f2∧r.f3=g.f3∧r.f5=g.f5∧(∀ i,tot r.f6 i=tot p i)∧(∀ i,tot r.f7 i=tot n i)∧r.f4=cnt p+cnt n+g.f3:=by
 have np:=Z1a hp.nn
 have nn:=Z1a hn.nn
 obtain⟨o,e1,c1,t1,b1,u1,l1,q1⟩:=tidy_ok hp (by omega)
 obtain⟨o2,e2,c2,t2,b2,u2,l2,q2⟩:=tidy_ok hn (by omega)
 have hlp:=hp.len
 have hln:=hn.len
 have htot:=total3 o o2 g.f3 (by omega) (by omega) u1 u2 ⟨h3,by omega⟩
 rw[q1,q2,if_pos ht] at htot
 have hf:Fits (⟨g.f0,g.f1,g.f2,g.f3,cnt p+cnt n+g.f3,g.f5,o,o2⟩:Zj) :=
  ⟨by rcases hk with h | h<;>rw[h]<;>constructor<;>omega,by have:=hs.1;have:=hs.2;constructor<;>simp<;>omega,by rcases hz with h | h<;>constructor<;>simp<;>omega,⟨h3,by simp;omega⟩,⟨by simp;omega,ht⟩,h5,
   fun b hb=>⟨inS_i64 (b1 b hb).ins,u1 b hb⟩,fun b hb=>⟨inS_i64 (b2 b hb).ins,u2 b hb⟩⟩
 have hv:Z2d (⟨g.f0,g.f1,g.f2,g.f3,cnt p+cnt n+g.f3,g.f5,o,o2⟩:Zj) :=
  ⟨hk,hs,hz,⟨hl o c1 (.inl ⟨t1,l1⟩),b1,c1.up⟩,⟨hl o2 c2 (.inr ⟨t2,l2⟩),b2,c2.up⟩,by simp only[q1,q2];exact ht,by simp only[q1,q2]⟩
 refine⟨_,?_,hv,hf,rfl,rfl,rfl,rfl,rfl,t1,t2,rfl⟩
 unfold Z1x.f
 rw[e1,e2,sb,sb,if_neg (by simp),htot,sb,if_neg (by simp),check_T _ hf hv,sb,if_neg (by simp)]
def Z36 (s a:Int) (l:List Z2):Prop:=∃ b∈l,(b.f0-1)*stp s<a∧a<b.f0*stp s
def cg (s a:Int):Int:=-((-a) / stp s)*stp s
theorem cg_eq {s a i:Int} (h1:(i-1)*stp s<a) (h2:a≤i*stp s):cg s a=i*stp s:=by
 have hp:=Z3l s
 unfold cg
 generalize stp s=st at *
 have : -((-a) / st)=i:=by
  have e1:=Int.ediv_mul_le (-a) (show st≠0 by omega)
  have e2:=Int.lt_ediv_add_one_mul_self (-a) hp
  generalize (-a) / st=q at *
  rw[Int.add_mul] at e2
  rw[Int.sub_mul] at h1
  have a1 : -q*st<(i+1)*st:=by rw[Int.neg_mul,Int.add_mul];omega
  have a2:(i-1)*st < -q*st:=by rw[Int.neg_mul,Int.sub_mul];omega
  have b1:=Int.lt_of_mul_lt_mul_right a1 (by omega)
  have b2:=Int.lt_of_mul_lt_mul_right a2 (by omega)
  omega
 rw[this]
theorem edge_l0 (h:Zj) (l:List Z2) (a:Int) (hs:Z1k h.f1) (hl:l.length<1000000000) (hi:∀ b∈l,InS h.f1 b.f0):∀ (suf pre:List Z2) (i:Int),l=pre++suf→i=(pre.length:Int) →
  Z10.l0 h l a i=some (if Z36 h.f1 a suf then .inl (cg h.f1 a) else .inr ()):=by
 intro suf
 induction suf with
 | nil =>
  intro pre i h1 hi0
  subst h1
  rw[Z10.l0,if_neg (by simp[hi0]),if_neg (by simp[Z36])]
 | cons x suf ih =>
  intro pre i h1 hi0
  have hx:=hi x (by rw[h1];simp)
  have hlen:(l.length:Int)=pre.length+(suf.length+1):=by rw[h1];simp
  rw[Z10.l0,if_pos (by simp;omega),Z2r h1 hi0,sb,low_T hs hx,sb,units_in hs hx,sb,ifand,sb,sb]
  by_cases hc:(x.f0-1)*stp h.f1<a∧a<x.f0*stp h.f1
  ·rw[if_pos (by simpa using hc),if_pos ⟨x,by simp,hc⟩,cg_eq hc.1 (by omega)]
  ·rw[if_neg (by simpa using hc),Zu     (by omega) (by omega),ih (pre++[x]) (i+1) (by simp[h1]) (by simp;omega)]
   have:Z36 h.f1 a (x::suf)↔Z36 h.f1 a suf:=by
    constructor
    ·rintro⟨b,hb,h⟩
     rcases List.mem_cons.1 hb with rfl | hb
     ·exact absurd h hc
     ·exact⟨b,hb,h⟩
    ·rintro⟨b,hb,h⟩;exact⟨b,by simp[hb],h⟩
   by_cases hst:Z36 h.f1 a suf
   ·rw[if_pos hst,if_pos (this.2 hst)]
   ·rw[if_neg hst,if_neg (fun q=>hst (this.1 q))]
theorem edge_eq (h:Zj) (l:List Z2) (a:Int) (hs:Z1k h.f1) (hl:l.length<1000000000) (hi:∀ b∈l,InS h.f1 b.f0) :
  Z10.f h l a=some (if Z36 h.f1 a l then cg h.f1 a else a):=by
 unfold Z10.f
 rw[edge_l0 h l a hs hl hi l [] 0 rfl rfl,sb]
 by_cases hst:Z36 h.f1 a l
 ·rw[if_pos hst,if_pos hst]
 ·rw[if_neg hst,if_neg hst]
abbrev above (s a:Int) (i:Int):Bool:=decide (a<i*stp s)
abbrev Z76 (s a:Int) (l:List Z2):List Z2:=l.filter (fun b=>above s a b.f0)
abbrev Z6j (s a:Int) (l:List Z2):List Z2:=l.filter (fun b => !above s a b.f0)
theorem keep_l0 (l:List Z2) (c0 s c2 c4 c5:Int) (c6 c7:List Z2) (a:Int) (hs:Z1k s) (hl:l.length<1000000) (hi:∀ b∈l,InS s b.f0) (hU:∀ b∈l,0≤b.f1):∀ (suf pre:List Z2) (z:Int) (o:List Z2) (i:Int),l=pre++suf→i=(pre.length:Int)→0≤z→z+cnt suf<18446744073709551616→o.length≤pre.length →
  Zp.l0 l c0 s c2 c4 c5 c6 c7 a z o i=some (o++Z76 s a suf,z+cnt (Z6j s a suf)):=by
 intro suf
 induction suf with
 | nil =>
  intro pre z o i h1 hi0 _ _ _
  subst h1
  rw[Zp.l0,if_neg (by simp[hi0])]
  simp[cnt]
 | cons x suf ih =>
  intro pre z o i h1 hi0 h0 hz ho
  have hx:=hi x (by rw[h1];simp)
  have hx1:=hU x (by rw[h1];simp)
  have hn:0≤cnt suf:=Z1a (fun b hb=>hU b (by rw[h1];simp[hb]))
  have hlen:(l.length:Int)=pre.length+(suf.length+1):=by rw[h1];simp
  rw[Z3h] at hz
  rw[Zp.l0,if_pos (by simp;omega),Z2r h1 hi0,sb,units_in hs hx,sb,Zu (by omega) (by omega),num_add2 (a:=z) (b:=x.f1) ⟨h0,by omega⟩ ⟨hx1,by omega⟩]
  by_cases hc:a<x.f0*stp s
  ·rw[if_pos (by simpa using hc),chkB (by simp;omega),sb]
   simp only[]
   rw[ih (pre++[x]) z (o++[x]) (i+1) (by simp[h1]) (by simp;omega) h0 (by omega) (by simp;omega)]
   simp[hc]
  ·rw[if_neg (by simpa using hc),if_pos (by omega),sb,sb]
   simp only[]
   rw[ih (pre++[x]) (z+x.f1) o (i+1) (by simp[h1]) (by simp;omega) (by omega) (by omega) (by simp;omega)]
   rw[show Z76 s a (x::suf)=Z76 s a suf from List.filter_cons_of_neg (by simpa using hc),show Z6j s a (x::suf)=x::Z6j s a suf from List.filter_cons_of_pos (by simpa using hc),Z3h,Int.add_assoc]
theorem keep_eq (l:List Z2) (c0 s c2 z c4 c5:Int) (c6 c7:List Z2) (a:Int) (hs:Z1k s) (hl:l.length<1000000) (hi:∀ b∈l,InS s b.f0) (hU:∀ b∈l,0≤b.f1) (h0:0≤z) (hz:z+cnt l<18446744073709551616) :
  Zp.f l c0 s c2 z c4 c5 c6 c7 a=some (Z76 s a l,z+cnt (Z6j s a l)):=by
 unfold Zp.f
 rw[keep_l0 l c0 s c2 c4 c5 c6 c7 a hs hl hi hU l [] z [] 0 rfl rfl h0 hz (Nat.le_refl _),sb]
 simp
noncomputable def zAt (s a:Int) (p n:List Z2):Int:=if Z36 s a p∨Z36 s a n then cg s a else a
theorem strad_lt {s a:Int} {l:List Z2} (h:Z36 s a l):a<cg s a:=by
 obtain⟨b,hb,h1,h2⟩:=h
 rw[cg_eq h1 (by omega)];exact h2
theorem zAt_max (s a:Int) (p n:List Z2):(if(if Z36 s a n then cg s a else a)>(if Z36 s a p then cg s a else a) then(if Z36 s a n then cg s a else a) else(if Z36 s a p then cg s a else a))=zAt s a p n:=by
 unfold zAt
 by_cases h1:Z36 s a p
 ·have:=strad_lt h1
  by_cases h2:Z36 s a n<;>simp[h1,h2];omega
 ·by_cases h2:Z36   s a n
  ·have:=strad_lt h2
   simp[h1,h2];omega
  ·simp[h1,h2]
theorem zAt_le (s a:Int) (p n:List Z2):a≤zAt s a p n:=by
 unfold zAt
 split
 ·rename_i h;rcases h with h | h<;>exact Int.le_of_lt (strad_lt h)
 ·exact Int.le_refl _
structure Cs (s:Int) (l:List Z2):Prop where
 len:l.length≤5000
 ins:∀ b∈l,InS s b.f0
 pos:∀ b∈l,0<b.f1
theorem Cs.nn {s:Int} {l:List Z2} (h:Cs s l):Nn l:=fun b hb=>Int.le_of_lt (h.pos b hb)
theorem kept_low {s a:Int} {p n l:List Z2} (hl:l=p∨l=n) {b:Z2} (hb:b∈l) (h:zAt s a p n<b.f0*stp s):zAt s a p n≤(b.f0-1)*stp s:=by
 have hp:=Z3l s
 unfold zAt at *
 by_cases hc:Z36 s a p∨Z36 s a n
 ·rw[if_pos hc] at *
  unfold cg at *
  have h1:=Int.lt_of_mul_lt_mul_right h (Int.le_of_lt hp)
  exact Int.mul_le_mul_of_nonneg_right (by omega) (Int.le_of_lt hp)
 ·rw[if_neg hc] at *
  by_cases h2:(b.f0-1)*stp s<a
  ·rcases hl with rfl | rfl
   ·exact absurd (.inl ⟨b,hb,h2,h⟩) hc
   ·exact absurd (.inr ⟨b,hb,h2,h⟩) hc
  ·omega
theorem zAt_range {s a:Int} {p n:List Z2} (hp:∀ b∈p,InS s b.f0) (hn:∀ b∈n,InS s b.f0) (ha:a = -524288∨(-262144<a∧a≤262144)):zAt s a p n = -524288∨(-262144<zAt s a p n∧zAt s a p n≤262144):=by
 unfold zAt
 split
 ·rename_i h
  rcases h with ⟨b,hb,h1,h2⟩ | ⟨b,hb,h1,h2⟩
  ·rw[cg_eq h1 (by omega)];exact .inr (hp b hb)
  ·rw[cg_eq h1 (by omega)];exact .inr (hn b hb)
 ·exact ha
structure Swal (h:Zj) (p n:List Z2) (a:Int) (r:Zj):Prop where
 valid:Z2d r
 fits:Fits r
 kind:r.f0=h.f0
 schema:r.f1=h.f1
 zeroAt:r.f2=zAt h.f1 a p n
 zero:r.f3=h.f3+cnt (Z6j h.f1 (zAt h.f1 a p n) p)+cnt (Z6j h.f1 (zAt h.f1 a p n) n)
 sum:r.f5=h.f5
 tpos:∀ i,tot r.f6 i=if above h.f1 (zAt h.f1 a p n) i=true then tot p i else 0
 tneg:∀ i,tot r.f7 i=if above h.f1 (zAt h.f1 a p n) i=true then tot n i else 0
 count:r.f4=cnt p+cnt n+h.f3
theorem Z7m (h:Zj) (p n:List Z2) (a:Int) (hk:h.f0=0∨h.f0=1) (hs:Z1k h.f1) (ha:a = -524288∨(-262144<a∧a≤262144)) (h3:0≤h.f3) (h5:I64 h.f5) (hp:Cs h.f1 p) (hn:Cs h.f1 n) (hpl:p.length≤512) (hnl:n.length≤512)
  (ht:cnt p+cnt n+h.f3<18446744073709551616):∃ r,Z1l.f h p n a=some (r,0)∧Swal h p n a r:=by
 have c1:=Z1a hp.nn
 have c2:=Z1a hn.nn
 have d1:cnt (Z76 h.f1 (zAt h.f1 a p n) p)+cnt (Z6j h.f1 (zAt h.f1 a p n) p)=cnt p:=Z7x p _
 have d2:cnt (Z76 h.f1 (zAt h.f1 a p n) n)+cnt (Z6j h.f1 (zAt h.f1 a p n) n)=cnt n:=Z7x n _
 have e1:=Z1a (l:=Z76 h.f1 (zAt h.f1 a p n) p) (fun b hb=>hp.nn b ((List.mem_filter.1 hb).1))
 have e2:=Z1a (l:=Z76 h.f1 (zAt h.f1 a p n) n) (fun b hb=>hn.nn b ((List.mem_filter.1 hb).1))
 have e3:=Z1a (l:=Z6j h.f1 (zAt h.f1 a p n) p) (fun b hb=>hp.nn b ((List.mem_filter.1 hb).1))
 have e4:=Z1a (l:=Z6j h.f1 (zAt h.f1 a p n) n) (fun b hb=>hn.nn b ((List.mem_filter.1 hb).1))
 have hb:∀ l,(l=p∨l=n)→Cs h.f1 l→Bs h.f1 (zAt h.f1 a p n) (Z76 h.f1 (zAt h.f1 a p n) l):=fun l hl hc =>
  ⟨Nat.le_trans (List.length_filter_le _ _) hc.len,fun b hb=>by
   obtain⟨h1,h2⟩:=List.mem_filter.1 hb
   exact⟨hc.ins b h1,Int.le_of_lt (hc.pos b h1),kept_low hl h1 (by simpa using h2)⟩⟩
 obtain⟨r,g1,g2,g3,g4,g5,g6,g7,g8,g9,g10,g11⟩:=Z7s (⟨h.f0,h.f1,zAt h.f1 a p n,h.f3+cnt (Z6j h.f1 (zAt h.f1 a p n) p)+cnt (Z6j h.f1 (zAt h.f1 a p n) n),h.f4,h.f5,h.f6,h.f7⟩:Zj)
  (Z76 h.f1 (zAt h.f1 a p n) p) (Z76 h.f1 (zAt h.f1 a p n) n) hk hs (zAt_range hp.ins hn.ins ha) (by simp;omega) h5 (hb p (.inl rfl) hp) (hb n (.inr rfl) hn) (by simp only;omega) (fun o ho hto=>by
   rcases hto with hto | hto
   ·exact Nat.le_trans hto.2 (Nat.le_trans (List.length_filter_le _ _) hpl)
   ·exact Nat.le_trans hto.2 (Nat.le_trans (List.length_filter_le _ _) hnl))
 refine⟨r,?_,⟨g2,g3,g4,g5,g6,g7,g8,fun i => ?_,fun i => ?_,?_⟩⟩
 ·have l1:=hp.len
  have l2:=hn.len
  unfold Z1l.f
  rw[edge_eq h p a hs (by omega) hp.ins,edge_eq h n a hs (by omega) hn.ins,sb,sb,zAt_max]
  rw[keep_eq p _ h.f1 _ h.f3 _ _ _ _ _ hs (by omega) hp.ins hp.nn h3 (by omega),sb,keep_eq n _ h.f1 _ _ _ _ _ _ _ hs (by omega) hn.ins hn.nn (by simp only;omega) (by simp only;omega),sb,g1]
  rfl
 ·rw[g9];exact Z5v p _ i
 ·rw[g10];exact Z5v n _ i
 ·rw[g11];simp only;omega
end Go.Proofs.Ytlclecehlekjoaa.PvGE
set_option linter.unusedVariables false
set_option linter.unusedSimpArgs false
namespace Go.Proofs.Ytlclecehlekjoaa.PvGE
open Go Go.Pv Go.Pv.GS Go.IntKind
open Classical
def rat (f t:Int):Int:=2 ^ (f-t).toNat
theorem rat_pos (f t:Int):0<rat f t:=Int.pow_pos (by omega)
theorem stp_rat {f t:Int} (h1:t≤f) (h2:f≤8):stp t=stp f*rat f t:=by
 unfold stp rat
 rw[← Int.pow_add];congr 1;omega
def upI (f t i:Int):Int:=-((-i) / rat f t)
theorem upI_spec (f t i:Int):(upI f t i-1)*rat f t<i∧i≤upI f t i*rat f t:=by
 have hp:=rat_pos f t
 unfold upI
 generalize rat f t=r at *
 have e1:=Int.ediv_mul_le (-i) (show r≠0 by omega)
 have e2:=Int.lt_ediv_add_one_mul_self (-i) hp
 generalize (-i) / r=q at *
 rw[Int.add_mul] at e2
 constructor
 ·rw[Int.sub_mul,Int.neg_mul];omega
 ·rw[Int.neg_mul];omega
theorem upI_in {f t i:Int} (hf:Z1k f) (ht:Z1k t) (h:t≤f) (hi:InS f i):InS t (upI f t i):=by
 obtain⟨h3,h4⟩:=upI_spec f t i
 have hst:=stp_rat h hf.2
 have hp:=Z3l f
 have hd:=stp_dvd ht
 have hr:=rat_pos f t
 obtain⟨i1,i2⟩:=hi
 constructor
 ·rw[hst,Int.mul_comm (stp f),← Int.mul_assoc]
  have:=Int.mul_le_mul_of_nonneg_right h4 (Int.le_of_lt hp);omega
 ·
  generalize hQ:262144 / stp t=Q at hd
  have hi3:i*stp f≤Q*rat f t*stp f:=by rw[Int.mul_assoc,Int.mul_comm (rat f t),← hst,hd];exact i2
  have hi4:=Int.le_of_mul_le_mul_right hi3 hp
  have:=Int.lt_of_mul_lt_mul_right (show(upI f t i-1)*rat f t<Q*rat f t by omega) (Int.le_of_lt hr)
  have:=Int.mul_le_mul_of_nonneg_right (show upI f t i≤Q by omega) (Int.le_of_lt (Z3l t))
  omega
theorem to_eq {f t i:Int} (hf:Z1k f) (ht:Z1k t) (h:t≤f) (hi:InS f i):Z2x.f f t i=some (upI f t i,0):=by
 have hs:=Z3s hi
 have h1:=hf.1
 have h2:=hf.2
 have h3:=ht.1
 have h4:=ht.2
 unfold Z2x.f Z4q.f
 rw[Z4d hf,sb,if_neg (by simp),Z4d ht,sb,if_neg (by simp),sb,if_neg (by simp;omega),in_T hf,sb,if_neg (by simp[hi]),chkB (u64_wrap _).1,sb]
 rw[Zu (n:=f-t) (by omega) (by omega),wrapU (by omega) (by omega),Zu (n:=0-i) (by omega) (by omega)]
 have e:min (f-t).toNat 64=(f-t).toNat:=by omega
 rw[e,Int.fdiv_eq_ediv_of_nonneg _ (Int.le_of_lt (Int.pow_pos (by omega)))]
 have:(0-i) / 2 ^ (f-t).toNat = -upI f t i:=by unfold upI rat;rw[Int.zero_sub];omega
 rw[this]
 have hj:=Z3s (upI_in hf ht h hi)
 rw[Zu (by omega) (by omega)]
 congr 2;omega
def Z59 (f t:Int) (l:List Z2):List Z2:=l.map (fun b=>⟨upI f t b.f0,b.f1⟩)
theorem Z7a (f t:Int) (l:List Z2):(Z59 f t l).length=l.length:=by simp[Z59]
theorem Z5o (f t:Int) (l:List Z2):cnt (Z59 f t l)=cnt l:=by simp[cnt,Z59,Function.comp_def]
theorem down_l0 (l:List Z2) (f t:Int) (hf:Z1k f) (ht:Z1k t) (h:t≤f) (hl:l.length<1000000) (hi:∀ b∈l,InS f b.f0):∀ (suf pre o:List Z2) (i:Int),l=pre++suf→i=(pre.length:Int)→o.length=pre.length →
  Z11.l0 l f t o i=some (o++Z59 f t suf):=by
 intro suf
 induction suf with
 | nil =>
  intro pre o i h1 hi0 _
  subst h1
  rw[Z11.l0,if_neg (by simp[hi0])]
  simp[Z59]
 | cons x suf ih =>
  intro pre o i h1 hi0 ho
  have hx:=hi x (by rw[h1];simp)
  have hlen:(l.length:Int)=pre.length+(suf.length+1):=by rw[h1];simp
  rw[Z11.l0,if_pos (by simp;omega),Z2r h1 hi0,sb,to_eq hf ht h hx,sb,chkB (by simp;omega),Zu (by omega) (by omega)]
  rw[ih (pre++[x]) _ (i+1) (by simp[h1]) (by simp;omega) (by simp;omega)]
  simp[Z59]
theorem down_eq (l:List Z2) (f t:Int) (hf:Z1k f) (ht:Z1k t) (h:t≤f) (hl:l.length<1000000) (hi:∀ b∈l,InS f b.f0):Z11.f l f t=some (Z59 f t l):=by
 unfold Z11.f
 rw[down_l0 l f t hf ht h hl hi l [] [] 0 rfl rfl rfl];simp
def h0:Zj:=⟨0,0,0,0,0,0,[],[]⟩
theorem Z5w {s z:Int} {l:List Z2} (h:Side s z l):Cs s l:=⟨by have:=h.len;omega,fun b hb=>(h.ok b hb).ins,fun b hb=>(h.ok b hb).pos⟩
theorem cs_down {f t:Int} {l:List Z2} (hf:Z1k f) (ht:Z1k t) (h:t≤f) (hc:Cs f l):Cs t (Z59 f t l) :=
 ⟨by rw[Z7a];exact hc.len,fun b hb=>by
  obtain⟨x,hx,rfl⟩:=List.mem_map.1 hb
  exact upI_in hf ht h (hc.ins x hx),fun b hb=>by
  obtain⟨x,hx,rfl⟩:=List.mem_map.1 hb
  exact hc.pos x hx⟩
structure Cut (a:Zj) (s z:Int) (r:Zj):Prop where
 valid:Z2d r
 fits:Fits r
 kind:r.f0=a.f0
 schema:r.f1=s
 zeroAt:r.f2=z
 count:r.f4=a.f4
 sum:r.f5=a.f5
 tpos:∀ i,tot r.f6 i=if above s z i=true then tot (Z59 a.f1 s a.f6) i else 0
 tneg:∀ i,tot r.f7 i=if above s z i=true then tot (Z59 a.f1 s a.f7) i else 0
theorem Down_eq (a:Zj) (s:Int) (hv:Z2d a) (hf:Fits a) (hs:Z1k s) (hle:s≤a.f1) :
  ∃ r,Z1w.f a s=some (r,0)∧Cut a s (zAt s a.f2 (Z59 a.f1 s a.f6) (Z59 a.f1 s a.f7)) r:=by
 have l1:=hv.pos.len
 have l2:=hv.neg.len
 have h1:=hv.count
 have h2:=hv.total
 obtain⟨r,e,h⟩:=Z7m (⟨a.f0,s,a.f2,a.f3,a.f4,a.f5,a.f6,a.f7⟩:Zj) (Z59 a.f1 s a.f6) (Z59 a.f1 s a.f7) a.f2 hv.kind hs hv.zero hf.zero.1 hf.sum (cs_down hv.schema hs hle (Z5w hv.pos)) (cs_down hv.schema hs hle (Z5w hv.neg))
  (by rw[Z7a];exact l1) (by rw[Z7a];exact l2) (by rw[Z5o,Z5o];exact h2)
 refine⟨r,?_,⟨h.valid,h.fits,h.kind,h.schema,h.zeroAt,by rw[h.count,Z5o,Z5o];exact h1.symm,h.sum,h.tpos,h.tneg⟩⟩
 unfold Z1w.f
 rw[Z4d hs,sb,if_neg (by simp),sb,if_neg (by simp;omega),down_eq a.f6 a.f1 s hv.schema hs hle (by omega) (Z5w hv.pos).ins,down_eq a.f7 a.f1 s hv.schema hs hle (by omega) (Z5w hv.neg).ins,sb,sb,e]
 rfl
theorem clone_eq (a:Zj) (h1:a.f6.length<1000000000) (h2:a.f7.length<1000000000):Z2i.f a=some a:=by
 unfold Z2i.f
 rw[Z63 _ h1,Z63 _ h2];rfl
theorem Z4v (a:Zj) (z:Int) (hv:Z2d a) (hf:Fits a) (hz : -262144<z∧z≤262144) (hlt:a.f2<z) :
  ∃ r,Z19.f a z=some (r,0)∧Swal a a.f6 a.f7 z r:=by
 obtain⟨r,e,h⟩:=Z7m a a.f6 a.f7 z hv.kind hv.schema (.inr hz) hf.zero.1 hf.sum (Z5w hv.pos) (Z5w hv.neg) hv.pos.len hv.neg.len hv.total
 refine⟨r,?_,h⟩
 unfold Z19.f
 rw[if_neg (by simp;omega),if_neg (by simp;omega),if_neg (by simp;omega),sb,if_neg (by simp;omega),e];rfl
theorem Z4w (a:Zj) (hv:Z2d a):Z19.f a a.f2=some (a,0):=by
 have l1:=hv.pos.len
 have l2:=hv.neg.len
 unfold Z19.f
 rw[if_neg (by simp),if_pos (by simp),clone_eq a (by omega) (by omega)];rfl
theorem Cut.widen {a r r':Zj} {s z z':Int} (h:Cut a s z r) (hz:z≤z') (hw:Swal r r.f6 r.f7 z' r'):Cut a s (zAt s z' r.f6 r.f7) r':=by
 have hle:=zAt_le s z' r.f6 r.f7
 have hc:=h.valid.count
 have key:∀ i (u v:Int),u=(if above s z i=true then v else 0)→(if above s (zAt s z' r.f6 r.f7) i=true then u else 0)=if above s (zAt s z' r.f6 r.f7) i=true then v else 0:=by
  intro i u v hu
  by_cases h1:zAt s z' r.f6 r.f7<i*stp s
  ·simp only[decide_eq_true_eq]
   rw[if_pos h1,if_pos h1,hu];simp only[decide_eq_true_eq];rw[if_pos (by omega)]
  ·simp only[decide_eq_true_eq];rw[if_neg h1,if_neg h1]
 have hs:=h.schema
 refine⟨hw.valid,hw.fits,hw.kind.trans h.kind,hw.schema.trans hs,?_,?_,hw.sum.trans h.sum,fun i => ?_,fun i => ?_⟩
 ·rw[hw.zeroAt,hs]
 ·rw[hw.count,← h.count,hc]
 ·rw[hw.tpos i,hs];exact key i _ _ (h.tpos i)
 ·rw[hw.tneg i,hs];exact key i _ _ (h.tneg i)
theorem Z41 {s a:Int} {l:List Z2}:¬ Z36 s (cg s a) l:=by
 rintro⟨b,hb,h1,h2⟩
 have hp:=Int.le_of_lt (Z3l s)
 unfold cg at *
 have:=Int.lt_of_mul_lt_mul_right h1 hp
 have:=Int.lt_of_mul_lt_mul_right h2 hp
 omega
theorem zAt_no {s a:Int} {p n:List Z2} (h1:¬ Z36 s a p) (h2:¬ Z36 s a n):zAt s a p n=a:=by
 unfold zAt;rw[if_neg (by rintro(h | h)<;>contradiction)]
theorem zAt_or (s a:Int) (p n:List Z2):zAt s a p n=a∧¬ Z36 s a p∧¬ Z36 s a n∨zAt s a p n=cg s a:=by
 unfold zAt
 by_cases h:Z36 s a p∨Z36 s a n
 ·exact .inr (if_pos h)
 ·exact .inl ⟨if_neg h,fun q=>h (.inl q),fun q=>h (.inr q)⟩
end Go.Proofs.Ytlclecehlekjoaa.PvGE
set_option linter.unusedVariables false
set_option linter.unusedSimpArgs false
namespace Go.Proofs.Ytlclecehlekjoaa.PvGE
open Go Go.Pv Go.Pv.GS Go.IntKind
open Classical
theorem alike_loop (a b p q:Zj) (s zp zq:Int) (hp:Cut a s zp p) (hq:Cut b s zq q) :
  ∃ p' q' z,         Z0e.l0 (p.f0,p.f1,p.f2,p.f3,p.f4,p.f5,p.f6,p.f7,q.f0,q.f1,q.f2,q.f3,q.f4,q.f5,q.f6,q.f7)=some (.inr (p'.f0,p'.f1,p'.f2,p'.f3,p'.f4,p'.f5,p'.f6,p'.f7,q'.f0,q'.f1,q'.f2,q'.f3,q'.f4,q'.f5,q'.f6,q'.f7)) ∧
   Cut a s z p'∧Cut b s z q'∧z=(if zp<zq then zAt s zq p.f6 p.f7 else if zq<zp then zAt s zp q.f6 q.f7 else zp):=by
 have done:∀ (p q:Zj) (z:Int),p.f2=z→q.f2=z→Z0e.l0 (p.f0,p.f1,p.f2,p.f3,p.f4,p.f5,p.f6,p.f7,q.f0,q.f1,q.f2,q.f3,q.f4,q.f5,q.f6,q.f7)=some (.inr (p.f0,p.f1,p.f2,p.f3,p.f4,p.f5,p.f6,p.f7,q.f0,q.f1,q.f2,q.f3,q.f4,q.f5,q.f6,q.f7)):=by
  intro p q z h1 h2
  rw[Z0e.l0]
  (try simp only[])
  rw[if_neg (by simp[h1,h2])]
 have step:∀ (p q p' q':Zj),p.f2≠q.f2→Z19.f p (if q.f2>p.f2 then q.f2 else p.f2)=some (p',0)→Z19.f q (if q.f2>p.f2 then q.f2 else p.f2)=some (q',0) →
   Z0e.l0 (p.f0,p.f1,p.f2,p.f3,p.f4,p.f5,p.f6,p.f7,q.f0,q.f1,q.f2,q.f3,q.f4,q.f5,q.f6,q.f7)=Z0e.l0 (p'.f0,p'.f1,p'.f2,p'.f3,p'.f4,p'.f5,p'.f6,p'.f7,q'.f0,q'.f1,q'.f2,q'.f3,q'.f4,q'.f5,q'.f6,q'.f7):=by
  intro p q p' q' hne h1 h2
  conv=>lhs;rw[Z0e.l0]
  (try simp only[])
  rw[if_pos (by simpa using hne),h1,sb,h2,sb,if_neg (by simp)]
 have rng:∀ (u:Zj) (z:Int),Z2d u→z<u.f2→(z = -524288∨(-262144<z∧z≤262144)) → -262144<u.f2∧u.f2≤262144:=by
  intro u z hu hlt hz
  rcases hu.zero with h | h
  ·rcases hz with h' | h'<;>omega
  ·exact h
 by_cases h1:zp<zq
 ·have hz:=rng q zp hq.valid (by rw[hq.zeroAt];exact h1) (hp.zeroAt ▸ hp.valid.zero)
  rw[hq.zeroAt] at hz
  obtain⟨p1,e1,w1⟩:=Z4v p zq hp.valid hp.fits hz (by rw[hp.zeroAt];exact h1)
  have c1:=hp.widen (by omega) w1
  have es:=step p q p1 q (by rw[hp.zeroAt,hq.zeroAt];omega) (by rw[hp.zeroAt,hq.zeroAt,if_pos h1];exact e1) (by rw[hp.zeroAt,hq.zeroAt,if_pos h1];have:=Z4w q hq.valid;rw[hq.zeroAt] at this;exact this)
  rw[es,if_pos h1]
  rcases zAt_or s zq p.f6 p.f7 with ⟨hA,_⟩ | hA
  ·exact⟨p1,q,zq,done p1 q zq (by rw[c1.zeroAt,hA]) hq.zeroAt,hA ▸ c1,hq,hA.symm⟩
  ·by_cases heq:zAt s zq p.f6 p.f7=zq
   ·exact⟨p1,q,zq,done p1 q zq (by rw[c1.zeroAt,heq]) hq.zeroAt,heq ▸ c1,hq,heq.symm⟩
   have hgt:zq<zAt s zq p.f6 p.f7:=by have:=zAt_le s zq p.f6 p.f7;omega
   have hz2:=rng p1 zq c1.valid (by rw[c1.zeroAt];exact hgt) (.inr hz)
   rw[c1.zeroAt] at hz2
   obtain⟨q1,e2,w2⟩:=Z4v q (zAt s zq p.f6 p.f7) hq.valid hq.fits hz2 (by rw[hq.zeroAt];exact hgt)
   have c2:=hq.widen (by omega) w2
   have hno:zAt s (zAt s zq p.f6 p.f7) q.f6 q.f7=zAt s zq p.f6 p.f7:=by rw[hA];exact zAt_no Z41 Z41
   rw[hno] at c2
   have es2:=step p1 q p1 q1 (by rw[c1.zeroAt,hq.zeroAt];omega) (by rw[c1.zeroAt,hq.zeroAt,if_neg (by omega)];have:=Z4w p1 c1.valid;rw[c1.zeroAt] at this;exact this) (by rw[c1.zeroAt,hq.zeroAt,if_neg (by omega)];exact e2)
   rw[es2]
   exact⟨p1,q1,_,done p1 q1 _ c1.zeroAt c2.zeroAt,c1,c2,rfl⟩
 ·by_cases h2:zq<zp
  ·have hz:=rng p zq hp.valid (by rw[hp.zeroAt];exact h2) (hq.zeroAt ▸ hq.valid.zero)
   rw[hp.zeroAt] at hz
   obtain⟨q1,e1,w1⟩:=Z4v q zp hq.valid hq.fits hz (by rw[hq.zeroAt];exact h2)
   have c1:=hq.widen (by omega) w1
   have es:=step p q p q1 (by rw[hp.zeroAt,hq.zeroAt];omega) (by rw[hp.zeroAt,hq.zeroAt,if_neg h1];have:=Z4w p hp.valid;rw[hp.zeroAt] at this;exact this) (by rw[hp.zeroAt,hq.zeroAt,if_neg h1];exact e1)
   rw[es,if_neg h1,if_pos h2]
   rcases zAt_or s zp q.f6 q.f7 with ⟨hA,_⟩ | hA
   ·exact⟨p,q1,zp,done p q1 zp hp.zeroAt (by rw[c1.zeroAt,hA]),hp,hA ▸ c1,hA.symm⟩
   ·by_cases heq:zAt s zp q.f6 q.f7=zp
    ·exact⟨p,q1,zp,done p q1 zp hp.zeroAt (by rw[c1.zeroAt,heq]),hp,heq ▸ c1,heq.symm⟩
    have hgt:zp<zAt s zp q.f6 q.f7:=by have:=zAt_le s zp q.f6 q.f7;omega
    have hz2:=rng q1 zp c1.valid (by rw[c1.zeroAt];exact hgt) (.inr hz)
    rw[c1.zeroAt] at hz2
    obtain⟨p1,e2,w2⟩:=Z4v p (zAt s zp q.f6 q.f7) hp.valid hp.fits hz2 (by rw[hp.zeroAt];exact hgt)
    have c2:=hp.widen (by omega) w2
    have hno:zAt s (zAt s zp q.f6 q.f7) p.f6 p.f7=zAt s zp q.f6 q.f7:=by rw[hA];exact zAt_no Z41 Z41
    rw[hno] at c2
    have es2:=step p q1 p1 q1 (by rw[c1.zeroAt,hp.zeroAt];omega) (by rw[c1.zeroAt,hp.zeroAt,if_pos (by omega)];exact e2) (by rw[c1.zeroAt,hp.zeroAt,if_pos (by omega)];have:=Z4w q1 c1.valid;rw[c1.zeroAt] at this;exact this)
    rw[es2]
    exact⟨p1,q1,_,done p1 q1 _ c2.zeroAt c1.zeroAt,c2,c1,rfl⟩
  ·have:zp=zq:=by omega
   subst this
   rw[if_neg h1,if_neg h2]
   exact⟨p,q,zp,done p q zp hp.zeroAt hq.zeroAt,hp,hq,rfl⟩
theorem Alike_eq (a b:Zj) (ha:Z2d a) (fa:Fits a) (hb:Z2d b) (fb:Fits b) :
  ∃ p0 q0 p q s z,s=(if b.f1<a.f1 then b.f1 else a.f1) ∧         Z1w.f a s=some (p0,0) ∧         Z1w.f b s=some (q0,0)∧Cut a s p0.f2 p0∧Cut b s q0.f2 q0 ∧          Z0e.f a b=some (p,q,0)∧Cut a s z p∧Cut b s z q ∧
   z=(if p0.f2<q0.f2 then zAt s q0.f2 p0.f6 p0.f7 else if q0.f2<p0.f2 then zAt s p0.f2 q0.f6 q0.f7 else p0.f2):=by
 have hs:Z1k (if b.f1<a.f1 then b.f1 else a.f1):=by split;exact hb.schema;exact ha.schema
 obtain⟨p0,e1,c1⟩:=Down_eq a _ ha fa hs (by split<;>omega)
 obtain⟨q0,e2,c2⟩:=Down_eq b _ hb fb hs (by split<;>omega)
 have c1':=c1
 have c2':=c2
 rw[← c1.zeroAt] at c1'
 rw[← c2.zeroAt] at c2'
 obtain⟨p,q,z,el,cp,cq,hz⟩:=alike_loop a b p0 q0 _ _ _ c1' c2'
 refine⟨p0,q0,p,q,_,z,rfl,e1,e2,c1',c2',?_,cp,cq,hz⟩
 unfold Z0e.f
 rw[e1,sb,e2,sb,if_neg (by simp)]
 simp only[]
 rw[el]
 rfl
end Go.Proofs.Ytlclecehlekjoaa.PvGE
set_option linter.unusedVariables false
set_option linter.unusedSimpArgs false
namespace Go.Proofs.Ytlclecehlekjoaa.PvGE
open Go Go.Pv Go.Pv.GS Go.IntKind
open Classical
def Cand (hv:Bool) (last:Int) (b:Z2):Prop:=hv=false∨last<b.f0
structure Least (hv:Bool) (last:Int) (l:List Z2) (fd:Bool) (nx:Int):Prop where
 none:fd=false→∀ b∈l,¬ Cand hv last b
 some:fd=true→(∃ b∈l,Cand hv last b∧b.f0=nx)∧∀ b∈l,Cand hv last b→nx≤b.f0
end Go.Proofs.Ytlclecehlekjoaa.PvGE
set_option linter.unusedVariables false
set_option linter.unusedSimpArgs false
namespace Go.Proofs.Ytlclecehlekjoaa.PvGE
open Go Go.Pv Go.Pv.GS Go.IntKind
theorem subint {a b:Int} (ha:I64 a) (hb:I64 b):Z2g.f a b=some (if I64 (a-b) then(a-b,0) else(0,5)):=by
 unfold Z2g.f
 rw[wrap64_eq]
 by_cases hI:I64 (a-b)
 ·rw[if_pos hI]
  have e:(a-b+9223372036854775808) % 18446744073709551616-9223372036854775808=a-b:=by omega
  rw[e,if_neg]
  by_cases h:a<b
  ·simp[h]<;>omega
  ·simp[h];omega
 ·rw[if_neg hI,if_pos]
  by_cases h:a<b
  ·simp[h];omega
  ·simp[h];omega
theorem num_sub {a b:Int} (ha:U64 a) (hb:U64 b):Z3b.f a b=some (if b≤a then(a-b,0) else(0,5)):=by
 unfold Z3b.f
 by_cases h:b≤a
 ·rw[if_neg (by simp;omega),if_pos h,wrapU (by omega) (by omega)]
 ·rw[if_pos (by simp;omega),if_neg h]
end Go.Proofs.Ytlclecehlekjoaa.PvGE
set_option linter.unusedVariables false
set_option linter.unusedSimpArgs false
namespace Go.Proofs.Ytlclecehlekjoaa.PvGE
open Go Go.Pv Go.Pv.GS Go.IntKind
open Classical
structure Pair (p q:Zj):Prop where
 vp:Z2d p
 vq:Z2d q
 fp:Fits p
 fq:Fits q
 schema:p.f1=q.f1
 zeroAt:p.f2=q.f2
structure Sumd (p q r:Zj):Prop where
 valid:Z2d r
 fits:Fits r
 kind:r.f0=if q.f0>p.f0 then q.f0 else p.f0
 schema:r.f1=p.f1
 zeroAt:r.f2=p.f2
 zero:r.f3=p.f3+q.f3
 count:r.f4=p.f4+q.f4
 sum:r.f5=p.f5+q.f5
 tpos:∀ i,tot r.f6 i=tot p.f6 i+tot q.f6 i
 tneg:∀ i,tot r.f7 i=tot p.f7 i+tot q.f7 i
end Go.Proofs.Ytlclecehlekjoaa.PvGE
set_option linter.unusedVariables false
set_option linter.unusedSimpArgs false
namespace Go.Proofs.Ytlclecehlekjoaa.PvGE
open Go Go.Pv Go.Pv.GS Go.IntKind
open Classical
def Cov (a b:List Z2):Prop:=∀ i,tot b i≤tot a i
theorem less_l1 (a0:List Z2) (x:Z2) (b o:List Z2) (i:Int):Z03.l1 a0 x b o i ()=some (match b with
  | [] =>.inr ()
  | y::_=>if y.f0<x.f0 then .inl ([],false) else .inr ()):=by
 unfold Z03.l1
 cases b with
 | nil=>rw[if_neg (by simp),sb,if_neg (by simp)]
 | cons y b =>
  rw[if_pos (by simp),show at? (y::b) 0=some y from rfl,sb,sb]
  by_cases h:y.f0<x.f0
  ·rw[if_pos (by simpa using h)];simp[h]
  ·rw[if_neg (by simpa using h)];simp[h]
structure Left (s z:Int) (o:List Z2):Prop where
 ok:∀ b∈o,InS s b.f0∧0≤b.f1∧z≤(b.f0-1)*stp s
 u64:∀ b∈o,U64 b.f1
theorem less_l0 (s z:Int) (a:List Z2) (hl:a.length<1000000):∀ (suf pre b o:List Z2) (i:Int),a=pre++suf→i=(pre.length:Int)→Z49 suf→Z49 b→(∀ y∈suf,BOk s z y∧U64 y.f1)→(∀ y∈b,U64 y.f1)→b.length<1000000→o.length≤pre.length →
  (∃ b' o',Z03.l0 a b o i=some (.inr (b',o++o'))∧(b'=[]↔Cov suf b)∧(b'=[]→∀ i,tot o' i=tot suf i-tot b i)∧Left s z o'∧o'.length≤suf.length) ∨
  (Z03.l0 a b o i=some (.inl ([],false))∧¬ Cov suf b):=by
 intro suf
 induction suf with
 | nil =>
  intro pre b o i h1 hi _ hb _ _ _ _
  rw[List.append_nil] at h1;subst h1
  rw[Z03.l0,if_neg (by simp[hi])]
  refine .inl ⟨b,[],by simp,?_,fun h=>by subst h;simp[tot],⟨by simp,by simp⟩,by simp⟩
  constructor
  ·intro h;subst h;intro i;simp[tot]
  ·intro h
   cases b with
   | nil=>rfl
   | cons y b =>
    have h1:=h y.f0
    rw[hb.tot_head] at h1
    have:=hb.pos y (by simp)
    simp[tot] at h1;omega
 | cons x suf ih =>
  intro pre b o i h1 hi hs hb hxs hbs hbl ho
  have hlen:(a.length:Int)=pre.length+(suf.length+1):=by rw[h1];simp
  have hx:=hxs x (by simp)
  have hxp:=hs.pos x (by simp)
  have e1:a=(pre++[x])++suf:=by simp[h1]
  have e2:i+1=((pre++[x]).length:Int):=by simp;omega
  have hsx:=hs.tail
  have hxlow:∀ i,i≤x.f0→tot suf i=0:=fun i hi=>tot_zero (fun c hc=>by have:=(List.pairwise_cons.1 hs.up).1 c hc;omega)
  rw[Z03.l0,if_pos (by simp;omega),Z2r h1 hi,sb,less_l1,sb]
  have keep:(∀ i,tot b i=if i=x.f0 then 0 else tot b i)→(((chk ((o.length+[(⟨x.f0,x.f1⟩:Z2)].length)*16≤140737488355328))>>=fun _=>Z03.l0 a b (o++[(⟨x.f0,x.f1⟩:Z2)]) (i64.wrap (i+1)))=Z03.l0 a b (o++[x]) (i+1)) ∧
    ((∃ b' o',         Z03.l0 a b (o ++ [x]) (i + 1) = some (.inr (b', o ++ o')) ∧ (b' = [] ↔ Cov (x :: suf) b) ∧ (b' = [] → ∀ i, tot o' i = tot (x :: suf) i - tot b i) ∧ Left s z o' ∧ o'.length ≤ (x :: suf).length) ∨
      (Z03.l0 a b (o++[x]) (i+1)=some (.inl ([],false))∧¬ Cov (x::suf) b)):=by
   intro hb0
   have hcov:Cov (x::suf) b↔Cov suf b:=by
    constructor
    ·intro h i
     have:=h i
     by_cases hi:i=x.f0
     ·have h0:=hb0 i;rw[if_pos hi] at h0
      have:=hxlow i (by omega);omega
     ·rw[tot,if_neg (fun e=>hi e.symm)] at this;omega
    ·intro h i
     have:=h i
     rw[tot];split<;>omega
   refine⟨by rw[chkB (by simp;omega),Zu (by omega) (by omega)],?_⟩
   rcases ih (pre++[x]) b (o++[x]) (i+1) e1 e2 hsx hb (fun y hy=>hxs y (by simp[hy])) hbs hbl (by simp;omega) with ⟨b',o',g1,g2,g3,g4,g5⟩ | ⟨g1,g2⟩
   ·refine .inl ⟨b',x::o',by rw[g1];simp,by rw[hcov];exact g2,fun h i=>by rw[tot,tot,g3 h i];omega,⟨fun y hy => ?_,fun y hy => ?_⟩,by simp;omega⟩
    ·rcases List.mem_cons.1 hy with rfl | hy
     ·exact⟨hx.1.ins,Int.le_of_lt hx.1.pos,hx.1.low⟩
     ·exact g4.ok y hy
    ·rcases List.mem_cons.1 hy with rfl | hy
     ·exact hx.2
     ·exact g4.u64 y hy
   ·exact .inr ⟨g1,by rw[hcov];exact g2⟩
  cases b with
  | nil =>
   obtain⟨k1,k2⟩:=keep (fun i=>by simp[tot])
   simp only[]
   rw[if_neg (by simp),sb,if_neg (by simp),sb]
   simp only[]
   rw[k1];exact k2
  | cons y b =>
   have hyp:=hb.pos y (by simp)
   simp only[]
   by_cases h:y.f0<x.f0
   ·rw[if_pos h]
    refine .inr ⟨rfl,fun hc => ?_⟩
    have:=hc y.f0
    rw[hb.tot_head,hs.tot_low h] at this;omega
   rw[if_neg h]
   simp only[]
   rw[if_pos (by simp),show at? (y::b) 0=some y from rfl,sb,sb]
   by_cases he:y.f0=x.f0
   case neg =>
    obtain⟨k1,k2⟩:=keep (fun i=>by
     by_cases hi:i=x.f0
     ·rw[if_pos hi,hb.tot_low (by omega)]
     ·rw[if_neg hi])
    rw[if_neg (by simpa using he),sb]
    simp only[]
    rw[k1];exact k2
   rw[if_pos (by simpa using he),sb]
   by_cases hgt:y.f1>x.f1
   ·rw[if_pos (by simpa using hgt),sb]
    refine .inr ⟨rfl,fun hc => ?_⟩
    have h2:=hc y.f0
    rw[hb.tot_head] at h2
    rw[he,hs.tot_head] at h2;omega
   rw[if_neg (by simpa using hgt),chkB (by simp;omega),sb]
   simp only[]
   have hdrop:(List.drop (Int.toNat (1:Int)) (y::b)).take (Int.toNat (((y::b).length:Int))-Int.toNat (1:Int))=b:=by
    simp
   rw[hdrop,wrapU (by omega) (by have:=hx.2;omega),chkB (by simp;omega),Zu (by omega) (by omega)]
   have hblow:∀ i,i≤y.f0→tot b i=0:=fun i hi=>tot_zero (fun c hc=>by have:=(List.pairwise_cons.1 hb.up).1 c hc;omega)
   have hcov:Cov (x::suf) (y::b)↔Cov suf b:=by
    constructor
    ·intro h i
     have:=h i
     simp only[tot] at this
     by_cases hi:i=x.f0
     ·rw[hblow i (by omega),hxlow i (by omega)];omega
     ·rw[if_neg (by omega),if_neg (fun e=>hi e.symm)] at this;omega
    ·intro h i
     have:=h i
     simp only[tot]
     by_cases hi:i=x.f0
     ·rw[if_pos (by omega),if_pos hi.symm,hblow i (by omega),hxlow i (by omega)];omega
     ·rw[if_neg (by omega),if_neg (fun e=>hi e.symm)];omega
   rcases ih (pre++[x]) b (o++[⟨x.f0,x.f1-y.f1⟩]) (i+1) e1 e2 hsx hb.tail (fun y hy=>hxs y (by simp[hy])) (fun c hc=>hbs c (by simp[hc])) (by simp at hbl;omega) (by simp;omega) with ⟨b',o',g1,g2,g3,g4,g5⟩ | ⟨g1,g2⟩
   ·refine .inl ⟨b',⟨x.f0,x.f1-y.f1⟩::o',by rw[g1];simp,by rw[hcov];exact g2,fun h i => ?_,⟨fun c hc => ?_,fun c hc => ?_⟩,by simp;omega⟩
    ·simp only[tot]
     rw[g3 h i]
     by_cases hi:x.f0=i
     ·rw[if_pos hi,if_pos hi,if_pos (by omega)];omega
     ·rw[if_neg hi,if_neg hi,if_neg (by omega)];omega
    ·rcases List.mem_cons.1 hc with rfl | hc
     ·exact⟨hx.1.ins,by simp;omega,hx.1.low⟩
     ·exact g4.ok c hc
    ·rcases List.mem_cons.1 hc with rfl | hc
     ·have:=hx.2;constructor<;>simp<;>omega
     ·exact g4.u64 c hc
   ·exact .inr ⟨g1,by rw[hcov];exact g2⟩
theorem less_eq (s z:Int) (a b:List Z2) (ha:Z49 a) (hb:Z49 b) (hxs:∀ y∈a,BOk s z y∧U64 y.f1) (hbs:∀ y∈b,U64 y.f1) (hl:a.length<1000000) (hbl:b.length<1000000) :
  ∃ o ok,Z03.f a b=some (o,ok)∧(ok=true↔Cov a b)∧(ok=true→∀ i,tot o i=tot a i-tot b i)∧(ok=true→Left s z o)∧o.length≤a.length:=by
 unfold Z03.f
 rcases less_l0 s z a hl a [] b [] 0 rfl rfl ha hb hxs hbs hbl (Nat.le_refl _) with ⟨b',o',g1,g2,g3,g4,g5⟩ | ⟨g1,g2⟩
 ·rw[g1,sb]
  have hok:((b'.length:Int)==(0:Int))=true↔b'=[]:=by simp
  exact⟨o',_,by simp,by rw[hok,g2],fun h=>g3 (hok.1 h),fun _=>g4,g5⟩
 ·rw[g1,sb]
  exact⟨[],false,rfl,by simp[g2],by simp,by simp,by simp⟩
structure Lessd (p q r:Zj):Prop where
 valid:Z2d r
 fits:Fits r
 kind:r.f0=p.f0
 schema:r.f1=p.f1
 zeroAt:r.f2=p.f2
 zero:r.f3=p.f3-q.f3
 count:r.f4=p.f4-q.f4
 sum:r.f5=p.f5-q.f5
 tpos:∀ i,tot r.f6 i=tot p.f6 i-tot q.f6 i
 tneg:∀ i,tot r.f7 i=tot p.f7 i-tot q.f7 i
def Covs (p q:Zj):Prop:=Cov p.f6 q.f6∧Cov p.f7 q.f7∧q.f3≤p.f3
end Go.Proofs.Ytlclecehlekjoaa.PvGE
set_option linter.unusedVariables false
set_option linter.unusedSimpArgs false
namespace Go.Proofs.Ytlclecehlekjoaa.PvGE
open Go Go.Pv Go.Pv.GS Go.IntKind
theorem Z7e (h:Zj) (hf:Fits h):∃ r,Z02.f h=some r∧(r=0↔Z2d h):=by
 by_cases hsz:h.f6.length≤512∧h.f7.length≤512
 ·exact check_iff h hf (by omega) (by omega)
 have hnv:¬ Z2d h:=fun v=>hsz ⟨v.pos.len,v.neg.len⟩
 suffices q:∃ r,Z02.f h=some r∧r≠0 by
  obtain⟨r,e,hr⟩:=q
  exact⟨r,e,fun h=>absurd h hr,fun v=>absurd v hnv⟩
 unfold Z02.f
 have hk:((if(h.f0 != (0:Int))=true then(some (h.f0 != (1:Int))) else(some false)):Option (Bool))=some (!decide (h.f0=0∨h.f0=1)):=by
  by_cases h1:h.f0=0
  ·simp[h1]
  ·by_cases h2:h.f0=1<;>simp[h1,h2]
 rw[hk,sb]
 by_cases c1:h.f0=0∨h.f0=1
 case neg=>rw[if_pos (by simpa using c1)];exact⟨_,rfl,by omega⟩
 rw[if_neg (by rw[decide_eq_true c1];decide)]
 by_cases c2:Z1k h.f1
 case neg=>rw[right_F c2,sb,if_pos (by simp)];exact⟨_,rfl,by omega⟩
 rw[Z4d c2,sb,if_neg (by simp)]
 obtain⟨z,hz⟩:∃ z:Bool,((if(h.f2 != (-524288))=true then(if(decide (h.f2≤(-262144)))=true then(some true) else(some (decide (h.f2>(262144:Int))))) else(some false)):Option (Bool))=some z:=by
  repeat' split
  all_goals exact⟨_,rfl⟩
 rw[hz,sb]
 cases z with
 | true=>rw[if_pos rfl];exact⟨_,rfl,by omega⟩
 | false =>
  rw[if_neg (by simp),Z7d]
  by_cases h6:h.f6.length≤512
  ·obtain⟨r1,e1,i1⟩:=Z5a         h h.f6 c2 (by omega) (fun b hb=>(hf.pos b hb).2)
   rw[e1,sb]
   by_cases d1:r1=0
   case neg=>rw[if_pos (by simpa using d1),sb];exact⟨_,rfl,d1⟩
   have h7:¬ h.f7.length≤512:=fun q=>hsz ⟨h6,q⟩
   have e2:Z01.f h h.f7=some 9:=by unfold Z01.f;rw[if_pos (by simp;omega)]
   rw[if_neg (by simpa using d1),e2,sb,if_pos (by simp),sb];exact⟨_,rfl,by omega⟩
  ·have e1 :            Z01.f h h.f6=some 9:=by unfold            Z01.f;rw[if_pos (by simp;omega)]
   rw[e1,sb,if_pos (by simp),sb];exact⟨_,rfl,by omega⟩
end Go.Proofs.Ytlclecehlekjoaa.PvGE
set_option linter.unusedVariables false
set_option linter.unusedSimpArgs false
namespace Go.Proofs.Ytlclecehlekjoaa.PvGE
open Go Go.Pv Go.Pv.GS Go.IntKind
open Classical
theorem Alike_pairP (a b:Zj) (ha:Z2d a) (fa:Fits a) (hb:Z2d b) (fb:Fits b) :
  ∃ p q s z,Z0e.f a b=some (p,q,0)∧Cut a s z p∧Cut b s z q∧Pair p q:=by
 obtain⟨p0,q0,p,q,s,z,_,_,_,_,_,e,cp,cq,_⟩:=Alike_eq a b ha fa hb fb
 exact⟨p,q,s,z,e,cp,cq,cp.valid,cq.valid,cp.fits,cq.fits,cp.schema.trans cq.schema.symm,cp.zeroAt.trans cq.zeroAt.symm⟩
theorem Sub_casesP (a b p q:Zj) (s z:Int) (fa:Fits a) (fb:Fits b) (he:Z0e.f a b=some (p,q,0)) (cp:Cut a s z p) (cq:Cut b s z q) (hp:Pair p q) :
  Z1u.f a b=some (h0,21)∨Z1u.f a b=some (h0,5)∨(∃ r,Z1u.f a b=some (r,0)∧Lessd p q r):=by
 have a1:=hp.vp.pos.len
 have a2:=hp.vp.neg.len
 have a3:=hp.vq.pos.len
 have a4:=hp.vq.neg.len
 have c1:=hp.vp.count
 have c2:=hp.vq.count
 have hU:=hp.fp.count
 have z1:=hp.fp.zero
 have z2:=hp.fq.zero
 have hSI:=subint fa.sum fb.sum
 obtain⟨o6,k6,e6,i6,t6,L6,m6⟩:=less_eq p.f1 p.f2 p.f6 q.f6 hp.vp.pos.canon hp.vq.pos.canon (fun y hy=>⟨hp.vp.pos.ok y hy,(hp.fp.pos y hy).2⟩) (fun y hy=>(hp.fq.pos y hy).2) (by omega) (by omega)
 obtain⟨o7,k7,e7,i7,t7,L7,m7⟩:=less_eq p.f1 p.f2 p.f7 q.f7 hp.vp.neg.canon hp.vq.neg.canon (fun y hy=>⟨hp.vp.neg.ok y hy,(hp.fp.neg y hy).2⟩) (fun y hy=>(hp.fq.neg y hy).2) (by omega) (by omega)
 have hzs:=num_sub z1 z2
 have hcond:((if(!k6)=true then(some true) else(if(!k7)=true then(some true) else(some (((if q.f3≤p.f3 then((p.f3-q.f3,0):Int×Int) else(0,5)).2 != (0:Int)))))):Option (Bool))=some (!decide (Covs p q)):=by
  unfold Covs
  cases h6:k6 with
  | false => have : ¬ Cov p.f6 q.f6 := by rw [← i6, h6]; simp
             simp[this]
  | true =>
   have h6c:Cov p.f6 q.f6:=i6.1 h6
   cases h7:k7 with
   | false => have : ¬ Cov p.f7 q.f7 := by rw [← i7, h7]; simp
              simp[this]
   | true =>
    have h7c:Cov p.f7 q.f7:=i7.1 h7
    by_cases h3:q.f3≤p.f3<;>simp[h6c,h7c,h3]
 by_cases hcv:Covs p q
 case neg =>
  refine .inl ?_
  ·unfold        Z1u.f
   rw[hSI,sb,he,sb,if_neg (by simp)]
   dsimp only
   rw[e6,e7,hzs,sb,sb,sb,hcond,sb,if_pos (by simp[hcv])];rfl
 by_cases hI:I64 (a.f5-b.f5)
 case neg =>
  refine .inr (.inl ?_)
  ·unfold        Z1u.f
   rw[hSI,sb,he,sb,if_neg (by simp)]
   dsimp only
   rw[e6,e7,hzs,sb,sb,sb,hcond,sb,if_neg (by simp[hcv]),if_neg hI,if_pos (by simp)];rfl
 obtain⟨h6,h7,h3⟩:=hcv
 have T6:=t6 (i6.2 h6)
 have T7:=t7 (i7.2 h7)
 have M6:=L6 (i6.2 h6)
 have M7:=L7 (i7.2 h7)
 have q6:cnt o6=cnt p.f6-cnt q.f6:=by
  have h:=Z7c (l:=o6) (l':=p.f6++negl q.f6) (fun i=>by rw[T6,Z2b,tot_negl];omega)
  rw[h,Z7y,Z4t (negl q.f6),Z6q,← Z4t];omega
 have q7:cnt o7=cnt p.f7-cnt q.f7:=by
  have h:=Z7c (l:=o7) (l':=p.f7++negl q.f7) (fun i=>by rw[T7,Z2b,tot_negl];omega)
  rw[h,Z7y,Z4t (negl q.f7),Z6q,← Z4t];omega
 have n6:=Z1a (l:=o6) (fun b hb=>(M6.ok b hb).2.1)
 have n7:=Z1a (l:=o7) (fun b hb=>(M7.ok b hb).2.1)
 have hn1:=Z1a hp.vq.pos.canon.nn
 have hn2:=Z1a hp.vq.neg.canon.nn
 obtain⟨r,e,v,f,e0,e1,e2,e3,e5,x6,x7,e4⟩:=Z7s (⟨p.f0,p.f1,p.f2,p.f3-q.f3,p.f4,a.f5-b.f5,p.f6,p.f7⟩:Zj) o6 o7 hp.vp.kind hp.vp.schema hp.vp.zero (by simp only;omega) hI ⟨by omega,M6.ok⟩ ⟨by omega,M7.ok⟩ (by simp only;omega) (fun o ho hto=>by
  rcases hto with hto | hto
  ·exact Nat.le_trans hto.2 (by omega)
  ·exact Nat.le_trans hto.2 (by omega))
 refine .inr (.inr ⟨r,?_,⟨v,f,e0,e1,e2,e3,by rw[e4,q6,q7];simp only;omega,by rw[e5,cp.sum,cq.sum],fun i=>by rw[x6,T6],fun i=>by rw[x7,T7]⟩⟩)
 ·unfold        Z1u.f
  rw[hSI,sb,he,sb,if_neg (by simp)]
  dsimp only
  rw[e6,e7,hzs,sb,sb,sb,hcond,sb,if_neg (by simp[Covs,h6,h7,h3]),if_pos hI,if_neg (by simp),if_pos h3]
  dsimp only
  rw[e];rfl
theorem sub_anyP (x y:Zj) (vx:Z2d x) (fx:Fits x) (vy:Z2d y) (fy:Fits y):∃ r e,Z1u.f x y=some (r,e)∧((e=0∧Z2d r∧Fits r)∨(r=h0∧(e=21∨e=5))):=by
 obtain⟨p,q,s,z,e,cp,cq,hp⟩:=Alike_pairP x y vx fx vy fy
 rcases Sub_casesP x y p q s z fx fy e cp cq hp with h1 | h1 | ⟨r,h1,h3⟩
 ·exact⟨_,_,h1,.inr ⟨rfl,.inl rfl⟩⟩
 ·exact⟨_,_,h1,.inr ⟨rfl,.inr rfl⟩⟩
 ·exact⟨_,_,h1,.inl ⟨rfl,h3.valid,h3.fits⟩⟩
noncomputable def gap (x y:Zj):Zj:=match Z1u.f y x with
 | some (d,e)=>if e=21 then y else d
 | none=>y
end Go.Proofs.Ytlclecehlekjoaa.PvGE
set_option linter.unusedVariables false
set_option linter.unusedSimpArgs false
set_option maxRecDepth 10000
namespace Go.Proofs.Ytlclecehlekjoaa.PvGE
open Go Go.Pv Go.Pv.GS Go.IntKind
def sideI (k:Int) (h:Zj):List Z2:=if k=0 then h.f6 else h.f7
def allI (k:Int) (l:List Zd):List Int:=l.foldl (fun u s=>uni u ((sideI k s.f1).map (·.f0))) []
theorem Z3x (k:Int) (l:List Zd) (s:Zd):allI k (l++[s])=uni (allI k l) ((sideI k s.f1).map (·.f0)):=by simp[allI,List.foldl_append]
theorem side_of {h:Zj} (v:Z2d h) (k:Int):Side h.f1 h.f2 (sideI k h):=by unfold sideI;split;exact v.pos;exact v.neg
theorem side_ids {h:Zj} (v:Z2d h) (k:Int):Ids ((sideI k h).map (·.f0)):=by
 have s:=side_of v k
 refine⟨List.pairwise_map.2 s.up,fun i hi => ?_⟩
 obtain⟨y,hy,rfl⟩:=List.mem_map.1 hi
 have:=Z3s (s.ok y hy).ins;omega
theorem snoc_ind {α:Type} {P:List α→Prop} (h0:P []) (h1:∀ l x,P l→P (l++[x])):∀ l,P l:=by
 intro l
 rcases List.eq_nil_or_concat l with rfl | ⟨l',x,rfl⟩
 ·exact h0
 ·rw[List.concat_eq_append];exact h1 l' x (snoc_ind h0 h1 l')
termination_by l=>l.length
decreasing_by subst l;simp
theorem Z6p (k:Int) (l:List Zd):(∀ s∈l,Z2d s.f1)→Ids (allI k l):=by
 induction l using snoc_ind with
 | h0=>intro _;exact⟨List.Pairwise.nil,by simp[allI]⟩
 | h1 l x ih =>
  intro h
  have i1:=ih (fun s hs=>h s (by simp[hs]))
  have i2:=side_ids (h x (by simp)) k
  rw[Z3x]
  exact⟨uni_inc _ _ i1.1 i2.1,fun i hi=>by rcases(Z72 i _ _).1 hi with q | q;exact i1.2 i q;exact i2.2 i q⟩
theorem Z6o (k:Int) (l:List Zd):(∀ s∈l,Z2d s.f1)→(allI k l).length≤512*l.length:=by
 induction l using snoc_ind with
 | h0=>intro _;simp[allI]
 | h1 l x ih =>
  intro h
  have i1:=ih (fun s hs=>h s (by simp[hs]))
  have i2:=(side_of (h x (by simp)) k).len
  have:=uni_len (allI k l) ((sideI k x.f1).map (·.f0))
  rw[Z3x]
  simp only[List.length_map,List.length_append,List.length_singleton] at *;omega
theorem lays_l0 (l:List Zd) (hl:l.length≤1000) (hv:∀ s∈l,Z2d s.f1):∀ (suf pre:List Zd) (i:Int),l=pre++suf→i=(pre.length:Int) →
  Z07.l0 l (lay (allI 0 pre)).f0 (lay (allI 0 pre)).f1 (lay (allI 1 pre)).f0 (lay (allI 1 pre)).f1 i=some ((lay (allI 0 l)).f0,(lay (allI 0 l)).f1,(lay (allI 1 l)).f0,(lay (allI 1 l)).f1):=by
 intro suf
 induction suf with
 | nil=>intro pre i h1 hi;rw[List.append_nil] at h1;subst h1;rw[Z07.l0,if_neg (by simp[hi])]
 | cons s suf ih =>
  intro pre i h1 hi
  have hlen:l.length=pre.length+(suf.length+1):=by rw[h1];simp
  have vs:=hv s (by rw[h1];simp)
  have hp:∀ x∈pre,Z2d x.f1:=fun x hx=>hv x (by rw[h1];simp[hx])
  have a0:=Z6p 0 pre hp
  have a1:=Z6p 1 pre hp
  have n0:=Z6o 0 pre hp
  have n1:=Z6o 1 pre hp
  have s0:=side_ids vs 0
  have s1:=side_ids vs 1
  have m0:=vs.pos.len
  have m1:=vs.neg.len
  have O0:=of_eq s.f1.f6 (by omega) s0.sm
  have O1:=of_eq s.f1.f7 (by omega) s1.sm
  have J0:Z0r.f ⟨(lay (allI 0 pre)).f0,(lay (allI 0 pre)).f1⟩ (lay (s.f1.f6.map (·.f0)))=some (lay (allI 0 (pre++[s]))):=by
   rw[Z3x];exact join_eq a0.sm s0.sm (by simp[sideI];omega)
  have J1:Z0r.f ⟨(lay (allI 1 pre)).f0,(lay (allI 1 pre)).f1⟩ (lay (s.f1.f7.map (·.f0)))=some (lay (allI 1 (pre++[s]))):=by
   rw[Z3x];exact join_eq a1.sm s1.sm (by simp[sideI];omega)
  rw[Z07.l0,if_pos (by simp;omega),Z2r h1 hi,sb,O0,sb,J0,sb,O1,sb,J1,sb,Zu (by omega) (by omega)]
  exact ih (pre++[s]) (i+1) (by simp[h1]) (by simp;omega)
theorem lays_eq (l:List Zd) (hl:l.length≤1000) (hv:∀ s∈l,Z2d s.f1):Z07.f l=some (lay (allI 0 l),lay (allI 1 l)):=by
 unfold Z07.f
 rw[show Z07.l0 l 0 [] 0 [] 0=_ from lays_l0 l hl hv l [] 0 rfl rfl,sb]
theorem len_le512 (n:Nat):decide ((n:Int)≤512)=decide (n≤512):=by
 by_cases h:n≤512
 ·rw[decide_eq_true h,decide_eq_true (by omega)]
 ·rw[decide_eq_false h,decide_eq_false (by omega)]
structure COk (l:List Zd):Prop where
 ok:∀ s∈l,Z2d s.f1∧0≤s.f0∧s.f0≤1099511627776
 len:l.length≤32
 up:l.Pairwise (fun a b=>a.f0<b.f0)
 head:∀ s∈l,∀ t∈l,s.f1.f0=t.f1.f0∧s.f1.f1=t.f1.f1∧s.f1.f2=t.f1.f2
 pos:(allI 0 l).length≤512
 neg:(allI 1 l).length≤512
theorem COk.nil:COk []:=⟨by simp,by simp,by simp,by simp,by simp[allI],by simp[allI]⟩
theorem fit_nil (s:Zd) (vs:Z2d s.f1) (ht:0≤s.f0∧s.f0≤1099511627776):COk ([]++[s]):=by
 refine⟨by simp;exact⟨vs,ht⟩,by simp,by simp,by simp,?_,?_⟩
 ·have:=(side_of vs 0).len;rw[Z3x];simp[allI,uni,this]
 ·have:=(side_of vs 1).len;rw[Z3x];simp[allI,uni,this]
theorem cfits (P:List Zd) (p s:Zd) (hl:(P++[p]).length≤900) (hV:∀ x∈(P++[p])++[s],Z2d x.f1) :
  Zw.f (P++[p]) s=(if(decide (31<(P++[p]).length)||decide (s.f0≤p.f0)||(s.f1.f0 != p.f1.f0)||(s.f1.f1 != p.f1.f1)||(s.f1.f2 != p.f1.f2))=true then some false else
   ((if(s.f1.f0==(0:Int))=true then((Z2h.f p.f1 s.f1)>>=fun t1460=>some t1460) else(some false)):Option (Bool))>>=fun x1462=>if x1462=true then(some false) else some (decide ((allI 0 ((P++[p])++[s])).length≤512)&&decide ((allI 1 ((P++[p])++[s])).length≤512))):=by
 have hla:((P++[p]:List Zd).length:Int)=P.length+1:=by simp
 have hat:at? (P++[p]) (i64.wrap (((P++[p]:List Zd).length:Int)-1))=some p:=by
  rw[hla,Zu (by simp at hl;omega) (by simp at hl;omega)];exact Z2r (pre:=P) (x:=p) (suf:=[]) rfl (by omega)
 have hne:¬ ((((P++[p]:List Zd).length:Int)==0)=true):=by rw[hla];simp;omega
 have hl2:((P++[p])++[s]:List Zd).length≤1000:=by simp at hl ⊢;omega
 unfold Zw.f
 have hal:Z24.f p.f1 s.f1=some (!((s.f1.f0 != p.f1.f0)||(s.f1.f1 != p.f1.f1)||(s.f1.f2 != p.f1.f2))):=by
  unfold Z24.f
  by_cases q0:p.f1.f0=s.f1.f0
  ·rw[if_pos (by simpa using q0),show(s.f1.f0 != p.f1.f0)=false by simp[q0]]
   by_cases q1:p.f1.f1=s.f1.f1
   ·rw[if_pos (by simpa using q1),sb,show(s.f1.f1 != p.f1.f1)=false by simp[q1]]
    by_cases q2:p.f1.f2=s.f1.f2
    ·rw[show(p.f1.f2==s.f1.f2)=true by simpa using q2,show(s.f1.f2 != p.f1.f2)=false by simp[q2]];rfl
    ·rw[show(p.f1.f2==s.f1.f2)=false by simpa using q2,show(s.f1.f2 != p.f1.f2)=true by simpa using fun h=>q2 h.symm];rfl
   ·rw[if_neg (by simpa using q1),sb,show(s.f1.f1 != p.f1.f1)=true by simpa using fun h=>q1 h.symm];rfl
  ·rw[if_neg (by simpa using q0),sb,show(s.f1.f0 != p.f1.f0)=true by simpa using fun h=>q0 h.symm];rfl
 have hb:((if(decide (((P++[p]:List Zd).length:Int)≥(32:Int)))=true then(some true) else(if(decide (s.f0≤p.f0))=true then(some true) else((Z24.f p.f1 s.f1)>>=fun t319=>some (!t319)))):Option (Bool))=some (decide (31<(P++[p]).length)||decide (s.f0≤p.f0)||(s.f1.f0 != p.f1.f0)||(s.f1.f1 != p.f1.f1)||(s.f1.f2 != p.f1.f2)):=by
  rw[hal,sb,Bool.not_not]
  by_cases q1:31<(P++[p]).length
  ·rw[if_pos (by simpa using (by omega:((P++[p]:List Zd).length:Int)≥32)),decide_eq_true q1];simp
  ·rw[if_neg (by simpa using (by omega:¬ ((P++[p]:List Zd     ).length:Int)≥32)),decide_eq_false q1]
   cases decide (s.f0≤p.f0)<;>simp[Bool.or_assoc]
 have hcl:Z0h.f (P++[p])=some (P++[p]):=by
  unfold Z0h.f
  rw[chkB (by simp at hl ⊢;omega)]
 rw[if_neg hne,hat,sb,hb,sb,hcl,sb,chkB (by simp at hl ⊢;omega),lays_eq _ hl2 hV,sb]
 have i0:=Z6p 0 _ hV
 have i1:=Z6p 1 _ hV
 have n0:=Z6o 0 _ hV
 have n1:=Z6o 1 _ hV
 dsimp only
 rw[ind_lay i0.sm (by omega),ind_lay i1.sm (by omega),sb,sb,len_le512,len_le512]
 congr 2
 funext x
 cases x with
 | true=>rfl
 | false=>cases decide ((allI 0 ((P++[p])++[s])).length≤512)<;>simp[sb]
theorem fit_fin (P:List Zd) (p s:Zd) (vs:Z2d s.f1) (ht:0≤s.f0∧s.f0≤1099511627776) (g:¬ (decide (31<(P++[p]).length)||decide (s.f0≤p.f0)||(s.f1.f0 != p.f1.f0)||(s.f1.f1 != p.f1.f1)||(s.f1.f2 != p.f1.f2))=true):∀ r:Bool,r=(decide ((allI 0 ((P++[p])++[s])).length≤512)&&decide ((allI 1 ((P++[p])++[s])).length≤512))→r=true→COk (P++[p])→COk ((P++[p])++[s]):=by
 have g2:(P++[p]).length≤31∧p.f0<s.f0∧s.f1.f0=p.f1.f0∧s.f1.f1=p.f1.f1∧s.f1.f2=p.f1.f2:=by
  simp only[Bool.or_eq_true,decide_eq_true_eq,bne_iff_ne,not_or,Classical.not_not] at g
  obtain⟨⟨⟨⟨q1,q2⟩,q3⟩,q4⟩,q5⟩:=g
  exact⟨by omega,by omega,q3,q4,q5⟩
 intro r hr ht2 hc
 rw[ht2] at hr
 have hr':=hr.symm
 simp only[Bool.and_eq_true,decide_eq_true_eq] at hr'
 refine⟨fun x hx => ?_,by simp at g2 ⊢;omega,?_,?_,hr'.1,hr'.2⟩
 ·rcases List.mem_append.1 hx with hx | hx
  ·exact hc.ok x hx
  ·simp at hx;subst hx;exact⟨vs,ht⟩
 ·refine List.pairwise_append.2 ⟨hc.up,by simp,fun a ha b hb => ?_⟩
  simp at hb;subst hb
  rcases List.mem_append.1 ha with ha | ha
  ·have:=(List.pairwise_append.1 hc.up).2.2 a ha p (by simp);omega
  ·simp at ha;subst ha;exact g2.2.1
 ·have hp:∀ x∈(P++[p])++[s],x.f1.f0=p.f1.f0∧x.f1.f1=p.f1.f1∧x.f1.f2=p.f1.f2:=fun x hx=>by
   rcases List.mem_append.1 hx with hx | hx
   ·exact hc.head x hx p (by simp)
   ·simp at hx;subst hx;exact g2.2.2
  intro x hx y hy
  have h1:=hp x hx
  have h2:=hp y hy
  exact⟨h1.1.trans h2.1.symm,h1.2.1.trans h2.2.1.symm,h1.2.2.trans h2.2.2.symm⟩
theorem fits_p (l:List Zd) (s:Zd) (hl:l.length≤900) (hv:∀ x∈l++[s],Z2d x.f1∧Fits x.f1) (ht:0≤s.f0∧s.f0≤1099511627776) :
  ∃ r:Bool,Zw.f l s=some r∧(r=true→COk l→COk (l++[s])):=by
 have vs:=hv s (by simp)
 rcases List.eq_nil_or_concat l with rfl | ⟨P,p,rfl⟩
 ·refine⟨true,?_,fun _ _=>fit_nil s vs.1 ht⟩
  unfold Zw.f;rw[if_pos (by simp)]
 simp only[List.concat_eq_append] at *
 have vp:=hv p (by simp)
 have hV:∀ x∈(P++[p])++[s],Z2d x.f1:=fun x hx=>(hv x hx).1
 rw[cfits P p s hl hV]
 by_cases g:(decide (31<(P++[p]).length)||decide (s.f0≤p.f0)||(s.f1.f0 != p.f1.f0)||(s.f1.f1 != p.f1.f1)||(s.f1.f2 != p.f1.f2))=true
 ·exact⟨false,by rw[if_pos g],by simp⟩
 rw[if_neg g]
 have fin:=fit_fin P p s vs.1 ht g
 by_cases k0:s.f1.f0=0
 ·obtain⟨q,e,e1,_⟩:=sub_anyP s.f1 p.f1 vs.1 vs.2 vp.1 vp.2
  unfold Z2h.f
  rw[if_pos (by simpa using k0),e1,sb,sb,sb]
  by_cases k1:e=21
  ·exact⟨false,by rw[if_pos (by simpa using k1)],by simp⟩
  ·exact⟨_,by rw[if_neg (by simpa using k1)],fin _ rfl⟩
 ·rw[if_neg (by simpa using k0),sb]
  exact⟨_,by rw[if_neg (by simp)],fin _ rfl⟩
theorem take_pre {α:Type} {l pre suf:List α} {i:Int} (h:l=pre++suf) (hi:i=(pre.length:Int)):(l.drop (Int.toNat (0:Int))).take (Int.toNat i-Int.toNat (0:Int))=pre:=by
 rw[show Int.toNat (0:Int)=0 from rfl,List.drop_zero,Nat.sub_zero,hi,Int.toNat_natCast,h,List.take_left]
theorem chkp_l0 (l:List Zd) (hl:l.length<1000000000000000) (hf:∀ s∈l,Fits s.f1):∀ (suf pre:List Zd) (i:Int),l=pre++suf→i=(pre.length:Int)→COk pre →
  ∃ r:Int ⊕ Unit,Zl.l0 l i=some r∧(∀ c,r = .inl c→c≠0)∧(r = .inr ()→COk l):=by
 intro suf
 induction suf with
 | nil =>
  intro pre i h1 hi hc
  rw[List.append_nil] at h1
  subst h1
  refine⟨.inr (),?_,by simp,fun _=>hc⟩
  rw[Zl.l0,if_neg (by simp[hi])]
 | cons s suf ih =>
  intro pre i h1 hi hc
  have hlen:l.length=pre.length+(suf.length+1):=by rw[h1];simp
  have hs:=hf s (by rw[h1];simp)
  have hT:∀ x:Int,((if(decide (x<(0:Int)))=true then(some true) else(some (decide (x>(1099511627776:Int))))):Option (Bool))=some (!decide (0≤x∧x≤1099511627776)):=fun x=>by
   by_cases c:x<0
   ·rw[if_pos (by simpa using c),decide_eq_false (by omega)];rfl
   ·rw[if_neg (by simpa using c)]
    by_cases c2:x>1099511627776
    ·rw[decide_eq_true c2,decide_eq_false (by omega)];rfl
    ·rw[decide_eq_false c2,decide_eq_true (by omega)];rfl
  by_cases ht:0≤s.f0∧s.f0≤1099511627776
  case neg =>
   refine⟨.inl 4,?_,by simp,by simp⟩
   rw[Zl.l0,if_pos (by simp;omega),Z2r h1 hi,sb,hT,sb,if_pos (by rw[decide_eq_false ht];rfl)]
  have hb:¬ ((!decide (0≤s.f0∧s.f0≤1099511627776))=true):=by rw[decide_eq_true ht];decide
  obtain⟨e,e1,e3⟩:=Z7e s.f1 hs
  have A:Zl.l0 l i=(if(e != (0:Int))=true then some (.inl e) else((Zw.f pre s)>>=fun t1838=>if(!t1838)=true then(some (.inl 6)) else Zl.l0 l (i+1))):=by
   rw[Zl.l0,if_pos (by simp;omega),Z2r h1 hi,sb,hT,sb,if_neg hb,e1,sb,chkB (by omega),take_pre h1 hi,Zu (n:=i+1) (by omega) (by omega)]
  rw[A]
  by_cases he:e=0
  case neg=>exact⟨.inl e,by rw[if_pos (by simpa using he)],fun c hc=>by cases hc;exact he,by simp⟩
  have hv:=e3.1 he
  rw[if_neg (by simpa using he)]
  obtain⟨r,f1,f3⟩:=fits_p pre s (by have:=hc.len;omega) (fun x hx=>by
   rcases List.mem_append.1 hx with hx | hx
   ·exact⟨(hc.ok x hx).1,hf x (by rw[h1];simp[hx])⟩
   ·simp at hx;subst hx;exact⟨hv,hs⟩) ht
  rw[f1,sb]
  cases r with
  | false=>exact⟨.inl 6,rfl,by simp,by simp⟩
  | true =>
   obtain⟨r,g1,g3,g4⟩:=ih (pre++[s]) (i+1) (by simp[h1]) (by simp;omega) (f3 rfl hc)
   exact⟨r,by rw[if_neg (by simp),g1],g3,g4⟩
theorem chk_p (l:List Zd) (hl:l.length<1000000000000000) (hf:∀ s∈l,Fits s.f1):∃ e,Zl.f l=some e∧(e=0→COk l∧l≠[]):=by
 by_cases h0:l=[]
 ·subst h0;exact⟨30,rfl,by simp⟩
 have hn:¬ (((l.length:Int)==0)=true):=by
  have:l.length≠0:=fun h=>h0 (List.length_eq_zero_iff.1 h)
  simp;omega
 obtain⟨r,e1,e3,e4⟩:=chkp_l0 l hl hf l [] 0 rfl rfl COk.nil
 unfold Zl.f
 rw[if_neg hn,e1,sb]
 cases r with
 | inl c=>exact⟨c,rfl,fun h=>absurd h (e3 c rfl)⟩
 | inr u=>exact⟨0,rfl,fun _=>⟨e4 rfl,h0⟩⟩
end Go.Proofs.Ytlclecehlekjoaa.PvGE
set_option linter.unusedVariables false
set_option linter.unusedSimpArgs false
set_option maxRecDepth 10000
namespace Go.Proofs.Ytlclecehlekjoaa.PvGE
open Go Go.Pv Go.Pv.GS Go.IntKind
def row0 (r:List Int):List Bool:=r.flatMap fun n=>cnt2 n.toNat
end Go.Proofs.Ytlclecehlekjoaa.PvGE
set_option linter.unusedVariables false
set_option linter.unusedSimpArgs false
set_option maxRecDepth 10000
namespace Go.Proofs.Ytlclecehlekjoaa.PvGE
open Go Go.Pv Go.Pv.GS Go.IntKind
variable {b:List Int}
structure HOk (h:Zj):Prop where
 fits:Fits h
 pos:h.f6.length≤512
 neg:h.f7.length≤512
theorem HOk.zero:HOk (⟨0,0,0,0,0,0,[],[]⟩:Zj):=⟨⟨by decide,by decide,by decide,by decide,by decide,by decide,by simp,by simp⟩,by simp,by simp⟩
end Go.Proofs.Ytlclecehlekjoaa.PvGE
set_option linter.unusedVariables false
set_option linter.unusedSimpArgs false
set_option maxRecDepth 100000
namespace Go.Proofs.Ytlclecehlekjoaa.PvGE
open Go Go.Pv Go.Pv.GS Go.IntKind
theorem Z6e:Z1p.f=some true:=by cbv
theorem light9_l0 (l:List Zd) (hl:l.length<1000000000000000):∀ (suf pre:List Zd) (x i:Int),l=pre++suf→i=(pre.length:Int)→∃ r,Z0n.l0 l x i=some r:=by
 intro suf
 induction suf with
 | nil=>intro pre x i h1 hi;rw[Z0n.l0,if_neg (by rw[h1];simp[hi])];exact⟨_,rfl⟩
 | cons s suf ih =>
  intro pre x i h1 hi
  have hlen:l.length=pre.length+(suf.length+1):=by rw[h1];simp
  rw[Z0n.l0,if_pos (by simp;omega),Z2r h1 hi,sb,Zu (n:=i+1) (by omega) (by omega)]
  exact ih (pre++[s]) _ (i+1) (by simp[h1]) (by simp;omega)
theorem light9 (l:List Zd) (hl:l.length<1000000000000000):∃ g,Z0n.f l=some g:=by
 unfold Z0n.f
 obtain⟨r,e⟩:=light9_l0 l hl l [] 0 0 rfl rfl
 rw[e,sb];exact⟨_,rfl⟩
end Go.Proofs.Ytlclecehlekjoaa.PvGE
set_option linter.unusedVariables false
set_option linter.unusedSimpArgs false
set_option maxRecDepth 10000
namespace Go.Proofs.Ytlclecehlekjoaa.PvGE
open Go Go.Pv Go.Pv.GS Go.IntKind
def Z3f (l:List Zd):Prop:=∀ pre s suf,l=pre++s::suf→Zw.f pre s=some true
theorem fits_nil (s:Zd):Zw.f [] s=some true:=by unfold Zw.f;rw[if_pos (by simp)]
theorem Z3f.one (s:Zd):Z3f [s]:=by
 intro pre x suf h
 cases pre with
 | nil=>exact fits_nil x
 | cons y r=>simp at h
theorem Z3f.pre {a b:List Zd} (h:Z3f (a++b)):Z3f a:=fun pre s suf e=>h pre s (suf++b) (by rw[e];simp)
theorem Z3f.snoc {a:List Zd} {s:Zd} (h:Z3f a) (hs:Zw.f a s=some true):Z3f (a++[s]):=by
 intro pre x suf e
 rcases List.eq_nil_or_concat suf with rfl | ⟨S,y,rfl⟩
 ·obtain⟨rfl,e2⟩:=List.append_inj' e rfl
  simp at e2;subst e2;exact hs
 ·rw[List.concat_eq_append] at e
  have e3:a++[s]=(pre++x::S)++[y]:=by rw[e];simp
  obtain⟨rfl,_⟩:=List.append_inj' e3 rfl
  exact h pre x S rfl
structure SOk (s:Zd):Prop where
 v:Z2d s.f1
 f:Fits s.f1
 t:0≤s.f0∧s.f0≤1099511627776
theorem tst (x:Int):((if(decide (x<(0:Int)))=true then(some true) else(some (decide (x>(1099511627776:Int))))):Option (Bool))=some (!decide (0≤x∧x≤1099511627776)):=by
 by_cases c:x<0
 ·rw[if_pos (by simpa using c),decide_eq_false (by omega)];rfl
 ·rw[if_neg (by simpa using c)]
  by_cases c2:x>1099511627776
  ·rw[decide_eq_true c2,decide_eq_false (by omega)];rfl
  ·rw[decide_eq_false c2,decide_eq_true (by omega)];rfl
theorem check0 {s:Zd} (h:SOk s):Z02.f s.f1=some 0:=by
 obtain⟨r,e1,e3⟩:=Z7e s.f1 h.f
 rw[e1,e3.2 h.v]
open Classical in
theorem grow_l0 (l:List Zd) (hl:l.length≤900) (hk:∀ s∈l,SOk s):∀ (suf pre:List Zd) (i:Int),l=pre++suf→i=(pre.length:Int) →
  Zl.l0 l i=some (if ∀ p s q,suf=p++s::q→Zw.f (pre++p) s=some true then .inr () else .inl 6):=by
 intro suf
 induction suf with
 | nil =>
  intro pre i h1 hi
  rw[Zl.l0,if_neg (by rw[h1];simp[hi]),if_pos (fun p s q h=>by simp at h)]
 | cons s suf ih =>
  intro pre i h1 hi
  have hlen:l.length=pre.length+(suf.length+1):=by rw[h1];simp
  have hs:=hk s (by rw[h1];simp)
  have hb:¬ ((!decide (0≤s.f0∧s.f0≤1099511627776))=true):=by rw[decide_eq_true hs.t];decide
  obtain⟨r,f1,_⟩:=fits_p pre s (by omega) (fun x hx=>by
   have:x∈l:=by rw[h1];rcases List.mem_append.1 hx with hx | hx;exact List.mem_append_left _ hx;simp at hx;subst hx;simp
   exact⟨(hk x this).v,(hk x this).f⟩) hs.t
  rw[Zl.l0,if_pos (by simp;omega),Z2r h1 hi,sb,tst,sb,if_neg hb,check0 hs,sb,if_neg (by simp),chkB (by omega),take_pre h1 hi,Zu (n:=i+1) (by omega) (by omega),f1,sb]
  cases r with
  | false =>
   rw[if_pos (show(!false)=true from rfl),if_neg]
   intro h
   have:=h [] s suf rfl
   rw[List.append_nil,f1] at this;simp at this
  | true =>
   rw[if_neg (show ¬ ((!true)=true) by simp),ih (pre++[s]) (i+1) (by simp[h1]) (by simp;omega)]
   congr 1
   by_cases c:∀ p x q,suf=p++x::q→Zw.f (pre++[s]++p) x=some true
   ·rw[if_pos c,if_pos]
    intro p x q e
    cases p with
    | nil=>simp at e;obtain⟨rfl,rfl⟩:=e;rw[List.append_nil];exact f1
    | cons y p=>simp at e;obtain⟨rfl,rfl⟩:=e;have:=c p x q rfl;simpa using this
   ·rw[if_neg c,if_neg]
    intro h
    refine c (fun p x q e => ?_)
    have:=h (s::p) x q (by rw[e];rfl)
    simpa using this
open Classical in
theorem grow_chk (l:List Zd) (hl:l.length≤900) (hne:l≠[]) (hk:∀ s∈l,SOk s):Zl.f l=some (if Z3f l then 0 else 6):=by
 have hn:¬ (((l.length:Int)==0)=true):=by
  have:l.length≠0:=fun h=>hne (List.length_eq_zero_iff.1 h)
  simp;omega
 unfold Zl.f
 rw[if_neg hn,grow_l0 l hl hk l [] 0 rfl rfl,sb]
 have e:(∀ p s q,l=p++s::q→Zw.f ([]++p) s=some true)↔Z3f l:=by simp[Z3f]
 by_cases h:Z3f l
 ·rw[if_pos (e.2 h),if_pos h]
 ·rw[if_neg (fun x=>h (e.1 x)),if_neg h]
structure CutOK (C:List (List Zd)):Prop where
 ne:∀ c∈C,c≠[]∧Z3f c
 gap:∀ i c c',C[i]? = some c→C[i+1]? = some c'→∃ s r,c'=s::r∧Zw.f c s=some false
theorem flat_len {C:List (List Zd)} (h:∀ c∈C,c≠[]):C.length≤C.flatten.length:=by
 induction C with
 | nil=>simp
 | cons c C ih =>
  have h1:=ih (fun x hx=>h x (by simp[hx]))
  have h2:=List.length_pos_iff.2 (h c (by simp))
  simp only[List.flatten_cons,List.length_append,List.length_cons];omega
theorem CutOK.last {D:List (List Zd)} {c c2:List Zd} {s:Zd} {r:List Zd} (h:CutOK (D++[c])) (hc:c=s::r) (hc2:∃ r2,c2=s::r2) (g:Z3f c2):CutOK (D++[c2]):=by
 obtain⟨r2,rfl⟩:=hc2
 refine⟨fun x hx => ?_,fun i x x' h1 h2 => ?_⟩
 ·rcases List.mem_append.1 hx with hx | hx
  ·exact h.ne x (by simp[hx])
  ·simp at hx;subst hx;exact⟨by simp,g⟩
 ·by_cases hi:i+1<D.length
  ·rw[List.getElem?_append_left (by omega)] at h1 h2
   exact h.gap i x x' (by rw[List.getElem?_append_left (by omega)];exact h1) (by rw[List.getElem?_append_left (by omega)];exact h2)
  ·rw[List.getElem?_append_right (by omega)] at h2
   obtain⟨h3,h4⟩:=List.getElem?_eq_some_iff.1 h2
   simp only[List.length_singleton] at h3
   have e:i+1=D.length:=by omega
   rw[List.getElem?_append_left (by omega)] at h1
   obtain⟨s',r',e1,e2⟩:=h.gap i x c (by rw[List.getElem?_append_left (by omega)];exact h1) (by rw[List.getElem?_append_right (by omega),e];simp)
   rw[hc] at e1
   obtain⟨rfl,rfl⟩:=List.cons.inj e1
   refine⟨s,r2,?_,e2⟩
   rw[← h4];simp[e]
theorem CutOK.snoc {D:List (List Zd)} {c:List Zd} {s:Zd} (h:CutOK (D++[c])) (hs:Zw.f c s=some false):CutOK (D++[c]++[[s]]):=by
 refine⟨fun x hx => ?_,fun i x x' h1 h2 => ?_⟩
 ·rcases List.mem_append.1 hx with hx | hx
  ·exact h.ne x hx
  ·simp at hx;subst hx;exact⟨by simp,Z3f.one s⟩
 ·by_cases hi:i+1<(D++[c]).length
  ·rw[List.getElem?_append_left (by omega)] at h1 h2
   exact h.gap i x x' h1 h2
  ·rw[List.getElem?_append_right (by omega)] at h2
   obtain⟨h3,h4⟩:=List.getElem?_eq_some_iff.1 h2
   simp only[List.length_singleton] at h3
   have e:i=D.length:=by simp at hi h3;omega
   rw[List.getElem?_append_left (by simp;omega),e,List.getElem?_append_right (by omega)] at h1
   simp at h1
   subst h1
   refine⟨s,[],?_,hs⟩
   rw[← h4];simp[e]
theorem cut_l0 (l:List Zd) (hl:l.length≤900) (hk:∀ s∈l,SOk s):∀ (suf:List Zd) (dn:List (List Zd)) (cu:List Zd) (i:Int),l=dn.flatten++cu++suf→i=((dn.flatten++cu).length:Int)→CutOK (dn++[cu]) →
  ∃ C,Z0s.l0 l dn cu i=some C∧C.flatten=l∧CutOK C∧((∀ p s q,suf=p++s::q→Zw.f (cu++p) s=some true)→C=dn++[cu++suf]):=by
 intro suf
 induction suf with
 | nil =>
  intro dn cu i h1 hi hC
  refine⟨dn++[cu],?_,by rw[h1];simp,hC,fun _=>by simp⟩
  rw[Z0s.l0,if_neg (by rw[h1];simp[hi])]
 | cons s suf ih =>
  intro dn cu i h1 hi hC
  have hlen:l.length=(dn.flatten++cu).length+(suf.length+1):=by rw[h1,List.length_append];rfl
  have hdn:=flat_len (C:=dn) (fun c hc=>(hC.ne c (by simp[hc])).1)
  have hn:(dn.flatten++cu).length=dn.flatten.length+cu.length:=List.length_append
  have hi1:((dn.flatten++cu++[s]).length:Int)=i+1:=by rw[hi,List.length_append];simp
  have hs:=hk s (by rw[h1];simp)
  obtain⟨r,f1,_⟩:=fits_p cu s (by omega) (fun x hx=>by
   have:x∈l:=by rw[h1];rcases List.mem_append.1 hx with hx | hx;simp[hx];simp at hx;subst hx;simp
   exact⟨(hk x this).v,(hk x this).f⟩) hs.t
  have hi2:i<1000:=by omega
  rw[Z0s.l0,if_pos (decide_eq_true (by omega)),Z2r h1 hi,sb,chkB (by omega),f1,sb,Zu (n:=i+1) (by omega) (by omega)]
  cases r with
  | false =>
   rw[if_pos (show(!false)=true from rfl)]
   obtain⟨C,e1,e2,e3,e4⟩:=ih (dn++[cu]) [s] (i+1) (by rw[h1];simp) (by rw[← hi1];simp) (hC.snoc f1)
   refine⟨C,e1,e2,e3,fun h => ?_⟩
   have:=h [] s suf rfl
   rw[List.append_nil,f1] at this;simp at this
  | true =>
   have hcu:=hC.ne cu (by simp)
   obtain⟨x,R,hx⟩:∃ x R,cu=x::R:=by cases cu with | nil=>exact absurd rfl hcu.1 | cons x R=>exact⟨x,R,rfl⟩
   rw[if_neg (show ¬ ((!true)=true) by simp),chkB (by omega)]
   obtain⟨C,e1,e2,e3,e4⟩:=ih dn (cu++[s]) (i+1) (by rw[h1];simp) (by rw[← hi1];simp) (hC.last hx ⟨R++[s],by rw[hx];rfl⟩ (hcu.2.snoc f1))
   refine⟨C,e1,e2,e3,fun h => ?_⟩
   rw[e4 (fun p y q e=>by have:=h (s::p) y q (by rw[e];rfl);simpa using this)]
   simp
theorem cut_ok (l:List Zd) (hl:l.length≤900) (hk:∀ s∈l,SOk s):∃ C,Z0s.f l=some C∧C.flatten=l∧CutOK C∧(l≠[]→Z3f l→C=[l]):=by
 unfold Z0s.f
 cases l with
 | nil=>exact⟨[],rfl,rfl,⟨by simp,by simp⟩,by simp⟩
 | cons s suf =>
  rw[if_pos (by simp),show at? (s::suf) 0=some s from rfl,sb,Zu (by omega) (by omega)]
  obtain⟨C,e1,e2,e3,e4⟩:=cut_l0 (s::suf) hl hk suf [] [s] (0+1) (by simp) (by simp) ⟨by simp;exact Z3f.one s,by intro i c c' h1 h2;cases i<;>simp at h2⟩
  refine⟨C,e1,e2,e3,fun _ h => ?_⟩
  rw[e4 (fun p x q e=>h ([s]++p) x q (by rw[e];rfl))]
  rfl
end Go.Proofs.Ytlclecehlekjoaa.PvGE
set_option linter.unusedVariables false
set_option linter.unusedSimpArgs false
set_option maxRecDepth 10000
namespace Go.Proofs.Ytlclecehlekjoaa.PvGE
open Go Go.Pv Go.Pv.GS Go.IntKind
theorem app_nil' (l:List Zd):([]:List Zd)++l=l:=rfl
theorem chunkParts_R (l:List Zd) (s:Zd) (k:Int) (hl:l.length≤140737488351232∧∀ y∈l,RSample y) (hs:RSample s) (hk:Rng 0 256 k):Z21.f l s k=some true:=by
 obtain⟨hl0,hR⟩:=hl
 unfold Z21.f
 obtain⟨g,eg⟩:=light9 l (by omega)
 rw[eg,sb]
 cases g with
 | false=>rw[if_pos (show(!false)=true from rfl),sb,if_pos rfl,Z6e,sb]
 | true =>
  rw[if_neg (show ¬ (!true)=true by simp)]
  have h6:=hs.r1.r6.1
  have h7:=hs.r1.r7.1
  rw[Zu (n:=(s.f1.f6.length:Int)+(s.f1.f7.length:Int)) (by omega) (by omega)]
  by_cases h100:(s.f1.f6.length:Int)+(s.f1.f7.length:Int)>100
  ·rw[if_pos (decide_eq_true h100),sb,if_pos rfl,Z6e,sb]
  rw[if_neg (by simpa using h100)]
  obtain⟨e,e1,e3⟩:=chk_p l (by omega) (fun x hx=>fits_of (hR x hx).r1)
  rw[e1,sb]
  by_cases he:e=0
  case neg=>rw[if_pos (by simpa using he),sb,if_pos rfl,Z6e,sb]
  subst he
  obtain⟨hc,hne⟩:=e3 rfl
  rw[if_neg (by simp)]
  by_cases t0:s.f0<0
  ·rw[if_pos (decide_eq_true t0),sb,if_pos rfl,Z6e,sb]
  rw[if_neg (by simpa using t0)]
  by_cases t1:s.f0>1099511627776
  ·rw[if_pos (decide_eq_true t1),sb,if_pos rfl,Z6e,sb]
  rw[if_neg (by simpa using t1)]
  have fs:=fits_of hs.r1
  obtain⟨r,r1,r3⟩:=Z7e s.f1 fs
  rw[r1,sb,sb]
  by_cases hr:r=0
  case neg=>rw[if_pos (by simpa using hr),Z6e,sb]
  subst hr
  rw[if_neg (by simp)]
  have sk:SOk s:=⟨r3.1 rfl,fs,by omega⟩
  have lk:∀ x∈l,SOk x:=fun x hx=>⟨(hc.ok x hx).1,fits_of (hR x hx).r1,(hc.ok x hx).2⟩
  have h32:=hc.len
  have hpos:0<l.length:=List.length_pos_iff.2 hne
  have gl:Z3f l:=by
   rw[grow_chk l (by omega) hne lk] at e1
   by_cases h:Z3f l
   ·exact h
   ·rw[if_neg h] at e1;simp at e1
  rw[chkB (by omega)]
  have hq:∃ n:Nat,i64.wrap ((1:Int)+(Int.tmod (i64.wrap k) (l.length:Int)))=(n:Int)∧1≤n∧n≤l.length:=by
   obtain⟨k0,k1⟩:=hk
   rw[Zu (n:=k) (by omega) (by omega)]
   have a1:=Int.tmod_nonneg (l.length:Int) k0
   have a2:=Int.tmod_lt_of_pos k (show(0:Int)<(l.length:Int) by omega)
   rw[Zu (by omega) (by omega)]
   exact⟨(1+Int.tmod k (l.length:Int)).toNat,by omega,by omega,by omega⟩
  obtain⟨n,en,n1,n2⟩:=hq
  rw[en,chkB (by omega)]
  have cutp:(l.drop (Int.toNat (0:Int))).take (Int.toNat (n:Int)-Int.toNat (0:Int))=l.take n:=by simp
  rw[cutp]
  have hpne:l.take n≠[]:=fun h=>by
   have:(l.take n).length=0:=by rw[h];rfl
   rw[List.length_take] at this;omega
  have gp:Z3f (l.take n):=Z3f.pre (b:=l.drop n) (by rw[List.take_append_drop];exact gl)
  rw[grow_chk (l.take n) (by rw[List.length_take];omega) hpne (fun x hx=>lk x (List.mem_of_mem_take hx)),if_pos gp,sb,if_neg (by simp),chkB (by simp;omega),app_nil',chkB (by simp;omega)]
  have hall:∀ x∈l++[s],SOk x:=fun x hx=>by
   rcases List.mem_append.1 hx with hx | hx
   ·exact lk x hx
   ·simp at hx;subst hx;exact sk
  obtain⟨C,c1,_,_,c4⟩:=cut_ok l (by omega) lk
  have c5:=c4 hne gl
  subst c5
  obtain⟨z,f1,_⟩:=fits_p l s (by omega) (fun x hx=>⟨(hall x hx).v,(hall x hx).f⟩) sk.t
  rw[grow_chk (l++[s]) (by simp;omega) (by simp) hall]
  have gz:Z3f (l++[s])↔z=true:=by
   constructor
   ·intro h
    have:=h l s [] rfl
    rw[f1] at this
    exact Option.some.inj this
   ·rintro rfl
    exact gl.snoc f1
  cases z with
  | true =>
   rw[if_pos (gz.2 rfl),sb,Z6e,sb,if_pos rfl,f1,sb,if_pos (by simp),if_pos (by simp),c1,sb,sb]
   rfl
  | false =>
   rw[if_neg (fun h=>by simpa using gz.1 h),sb,Z6e,sb,if_pos rfl,f1,sb,if_pos (by simp),if_neg (by simp),if_pos (by simp),c1,sb,sb]
   rfl
end Go.Proofs.Ytlclecehlekjoaa.PvGE
