import Derived.Test.YtpoihfcehejgfaaGreatPxBlockMakes16
set_option linter.unusedVariables false
set_option linter.unusedSimpArgs false
set_option maxRecDepth 100000
namespace Go.Proofs.YtpoihfcehejgfaaGreat.PvGS
open Go Go.Pv Go.Pv.GS Go.IntKind
def blen:Nat→Nat
 | 0=>0
 | n+1=>blen ((n+1) / 2)+1
decreasing_by omega
def cls (k:Nat):Nat:=if k≤0 then 0 else if k≤3 then 1 else if k≤7 then 2 else if k≤12 then 3 else if k≤20 then 4 else if k≤32 then 5 else 6
def wid:Nat→Nat
 | 0=>0 | 1=>3 | 2=>7 | 3=>12 | 4=>20 | 5=>32 | _=>64
def cnt2 (n:Nat):List Bool:=List.replicate (cls (blen n)) true++((if cls (blen n)<6 then [false] else [])++nb n (wid (cls (blen n))))
structure Src (b:List Int):Prop where
 byte:∀ x∈b,Byte x
 len:b.length<100000000000
variable {b:List Int}
end Go.Proofs.YtpoihfcehejgfaaGreat.PvGS
namespace Go.Proofs.YtpoihfcehejgfaaGreat.PvGS
open Go Go.Pv Go.Pv.GS Go.IntKind
theorem Z7x {n:Nat} (h:n<18446744073709551616):(BitVec.ofInt 64 (n:Int)).toNat=n:=by
 rw[BitVec.ofInt_natCast,BitVec.toNat_ofNat];exact Nat.mod_eq_of_lt h
variable {b:List Int}
end Go.Proofs.YtpoihfcehejgfaaGreat.PvGS
namespace Go.Proofs.YtpoihfcehejgfaaGreat.PvGS
open Go Go.Pv Go.Pv.GS Go.IntKind
def cnt (l:List Z0v):Int:=(l.map (·.f1)).sum
theorem Z90 {l:List Z0v} (h:Nn l):0≤cnt l:=Z5a (fun x hx=>by
 obtain⟨b,hb,rfl⟩:=List.mem_map.1 hx;exact h b hb)
theorem cnt_cons (b:Z0v) (l:List Z0v):cnt (b::l)=b.f1+cnt l:=by simp[cnt]
theorem total_l1 (a0:List (List Z0v)) (x769:Int) (l:List Z0v) (hl:l.length<1000000000):∀ (suf pre:List Z0v) (acc i:Int),l=pre++suf→i=(pre.length:Int)→U64 acc→(∀ b∈suf,U64 b.f1) →
  Z1g.l1 a0 l x769 acc i=some (if acc+cnt suf<18446744073709551616 then .inr (acc+cnt suf) else .inl (0,5)):=by
 intro suf
 induction suf with
 | nil =>
  intro pre acc i h1 hi ha hs;subst h1;rw[Z1g.l1,if_neg (by simp[hi])];simp[cnt,ha.2]
 | cons x suf ih =>
  intro pre acc i h1 hi ha hs;have hx:=hs x (by simp);have hs':∀ y∈suf,U64 y.f1:=fun y hy=>hs y (by simp[hy])
  have hnn:0≤cnt suf:=Z90 (fun y hy=>(hs' y hy).1);have hlen:(l.length:Int)=pre.length+(suf.length+1):=by rw[h1];simp
  rw[Z1g.l1,if_pos (by simp;omega),Z1s h1 hi,sb,num_add2 ha hx,sb,Z0b (by omega) (by omega),cnt_cons];by_cases hov:acc+x.f1<18446744073709551616
  ·rw[if_pos hov,if_neg (by simp),ih (pre++[x]) (acc+x.f1) (i+1) (by simp[h1]) (by simp;omega) ⟨by omega,hov⟩ hs',Int.add_assoc]
  ·rw[if_neg hov,if_pos (by simp),if_neg (by omega)]
theorem total_l0 (a0:List (List Z0v)) (ha0:a0.length<1000000000):∀ (suf pre:List (List Z0v)) (acc i:Int),a0=pre++suf→i=(pre.length:Int)→U64 acc→(∀ l∈suf,l.length<1000000000∧∀ b∈l,U64 b.f1) →
  Z1g.l0 a0 acc i=some (if acc+(suf.map cnt).sum<18446744073709551616 then .inr (acc+(suf.map cnt).sum) else .inl (0,5)):=by
 intro suf
 induction suf with
 | nil =>
  intro pre acc i h1 hi ha hs;subst h1;rw[Z1g.l0,if_neg (by simp[hi])];simp[ha.2]
 | cons x suf ih =>
  intro pre acc i h1 hi ha hs;have hx:=hs x (by simp);have hs':∀ l∈suf,l.length<1000000000∧∀ b∈l,U64 b.f1:=fun y hy=>hs y (by simp[hy])
  have hx0:0≤cnt x:=Z90 (fun y hy=>(hx.2 y hy).1);have hnn:0≤(suf.map cnt).sum:=Z5a (fun y hy=>by
   obtain⟨l,hl,rfl⟩:=List.mem_map.1 hy;exact Z90 (fun y hy=>((hs' l hl).2 y hy).1))
  have hlen:(a0.length:Int)=pre.length+(suf.length+1):=by rw[h1];simp
  rw[Z1g.l0,if_pos (by simp;omega),Z1s h1 hi,sb,total_l1 a0 i x hx.1 x [] acc 0 rfl rfl ha hx.2,sb,Z0b (by omega) (by omega),List.map_cons,List.sum_cons];by_cases hov:acc+cnt x<18446744073709551616
  ·rw[if_pos hov]
   simp only[];rw[ih (pre++[x]) (acc+cnt x) (i+1) (by simp[h1]) (by simp;omega) ⟨by omega,hov⟩ hs',Int.add_assoc]
  ·rw[if_neg hov,if_neg (by omega)]
theorem total3 (p n:List Z0v) (z:Int) (hp:p.length<1000000000) (hn:n.length<1000000000) (hpU:∀ b∈p,U64 b.f1) (hnU:∀ b∈n,U64 b.f1) (hz:U64 z) :
  Z1g.f [p,n,[(⟨0,z⟩:Z0v)]]=some (if cnt p+cnt n+z<18446744073709551616 then(cnt p+cnt n+z,0) else(0,5)):=by
 unfold Z1g.f;rw[total_l0 [p,n,[(⟨0,z⟩:Z0v)]] (by simp) [p,n,[(⟨0,z⟩:Z0v)]] [] 0 0 rfl rfl (by omega) (by
  intro l hl;simp only[List.mem_cons,List.not_mem_nil,or_false] at hl;rcases hl with rfl | rfl | rfl
  ·exact⟨hp,hpU⟩
  ·exact⟨hn,hnU⟩
  ·exact⟨by simp,by simp;exact hz⟩),sb]
 have e:0+(([p,n,[(⟨0,z⟩:Z0v)]]:List (List Z0v)).map cnt).sum=cnt p+cnt n+z:=by simp[cnt];omega
 rw[e];by_cases h:cnt p+cnt n+z<18446744073709551616
 ·rw[if_pos h,if_pos h]
 ·rw[if_neg h,if_neg h]
theorem right_eq (s:Int):Z1m.f s=some (decide (-4≤s)&&decide (s≤8)):=by
 unfold Z1m.f;rw[ifand];rfl
def Z3n (s:Int):Prop:=-4≤s∧s≤8
instance (s:Int):Decidable (Z3n s):=inferInstanceAs (Decidable (_∧_))
theorem right_T {s:Int} (h:Z3n s):Z1m.f s=some true:=by rw[right_eq];simp[h.1,h.2]
theorem right_F {s:Int} (h:¬ Z3n s):Z1m.f s=some false:=by rw[right_eq];simp[Z3n] at h ⊢;omega
def stp (s:Int):Int:=2 ^ (8-s).toNat
theorem Z8k (s:Int):0<stp s:=by unfold stp;exact Int.pow_pos (by omega)
theorem stp_le {s:Int} (h:Z3n s):stp s≤4096:=by
 have h1:=h.1;have h2:=h.2;have:s = -4∨s = -3∨s = -2∨s = -1∨s=0∨s=1∨s=2∨s=3∨s=4∨s=5∨s=6∨s=7∨s=8:=by omega
 rcases this with rfl | rfl | rfl | rfl | rfl | rfl | rfl | rfl | rfl | rfl | rfl | rfl | rfl<;>decide
theorem shift_eq {s:Int} (h:Z3n s):min (Int.toNat (u64.wrap (i64.wrap ((8:Int)-s)))) 64=(8-s).toNat:=by
 have h1:=h.1;have h2:=h.2;rw[Z0b (by omega) (by omega),Z9z (by omega) (by omega)];omega
theorem most_T {s:Int} (h:Z3n s):Z3d.f s=some (262144 / stp s):=by
 unfold Z3d.f Z31.f;rw[right_T h,sb,if_neg (by simp),sb,chkB (u64_wrap _).1,shift_eq h,Int.fdiv_eq_ediv_of_nonneg _ (by exact Int.le_of_lt (Z8k s))];rfl
theorem units_T {s i:Int} (h:Z3n s) (hi : -1000000000000<i∧i<1000000000000):Z3w.f s i=some (i*stp s):=by
 unfold Z3w.f Z31.f;rw[right_T h,sb,if_neg (by simp),sb,chkB (u64_wrap _).1,shift_eq h];have h1:=Z8k s;have h2:=stp_le h;have h3:i*stp s≤1000000000000*4096:=by
  by_cases h0:0≤i
  ·exact Int.mul_le_mul (by omega) h2 (by omega) (by omega)
  ·have:i*stp s≤0:=Int.mul_nonpos_of_nonpos_of_nonneg (by omega) (by omega);omega
 have h4 : -(1000000000000*4096)≤i*stp s:=by
  by_cases h0:0≤i
  ·have:0≤i*stp s:=Int.mul_nonneg h0 (by omega);omega
  ·have : -i*stp s≤1000000000000*4096:=Int.mul_le_mul (by omega) h2 (by omega) (by omega)
   rw[Int.neg_mul] at this;omega
 show some (i64.wrap (i*stp s))=_;rw[Z0b (by omega) (by omega)]
theorem check_l0_eq (h:Z20):Z1q.l0 h 0=((Z0y.f h h.f6)>>=fun t=>if(t != (0:Int))=true then some (.inl t) else(Z0y.f h h.f7)>>=fun t=>if(t != (0:Int))=true then some (.inl t) else some (.inr ())):=by
 have w1:i64.wrap (0+1)=1:=by decide
 have w2:i64.wrap (1+1)=2:=by decide
 rw[Z1q.l0,if_pos (by decide),chkB (by omega),if_pos (by decide),sb,w1];congr 1;funext t;split
 ·rfl
 ·rw[         Z1q.l0,if_pos (by decide),chkB (by omega),if_neg (by decide),sb,w2]
  congr 1;funext t;split
  ·rfl
  ·rw[Z1q.l0,if_neg (by decide)]
structure Fits (h:Z20):Prop where
 kind:I64 h.f0
 schema:I64 h.f1
 zeroAt:I64 h.f2
 zero:U64 h.f3
 count:U64 h.f4
 sum:I64 h.f5
 pos:∀ b∈h.f6,I64 b.f0∧U64 b.f1
 neg:∀ b∈h.f7,I64 b.f0∧U64 b.f1
theorem fits_of {h:Z20} (r:RHist h):Fits h:=⟨r.r0,r.r1,r.r2,r.r3,r.r4,r.r5,fun b hb=>let q:=r.r6.2 b hb;⟨q.r0,q.r1⟩,fun b hb=>let q:=r.r7.2 b hb;⟨q.r0,q.r1⟩⟩
theorem stp_dvd {s:Int} (h:Z3n s):262144 / stp s*stp s=262144:=by
 have h1:=h.1;have h2:=h.2;have:s = -4∨s = -3∨s = -2∨s = -1∨s=0∨s=1∨s=2∨s=3∨s=4∨s=5∨s=6∨s=7∨s=8:=by omega
 rcases this with rfl | rfl | rfl | rfl | rfl | rfl | rfl | rfl | rfl | rfl | rfl | rfl | rfl<;>decide
def InS (s i:Int):Prop:=-262144<i*stp s∧i*stp s≤262144
instance (s i:Int):Decidable (InS s i):=inferInstanceAs (Decidable (_∧_))
theorem inS_iff {s i:Int} (h:Z3n s):InS s i ↔ -(262144 / stp s)+1≤i∧i≤262144 / stp s:=by
 have hp:=Z8k s;have hd:=stp_dvd h;unfold InS;generalize 262144 / stp s=q at *;generalize stp s=st at *;constructor
 ·rintro⟨h1,h2⟩
  constructor
  ·have : -q*st<i*st:=by rw[Int.neg_mul];omega
   have:=Int.lt_of_mul_lt_mul_right this (Int.le_of_lt hp);omega
  ·have:i*st≤q*st:=by omega
   exact Int.le_of_mul_le_mul_right this hp
 ·rintro⟨h1,h2⟩
  constructor
  ·have:=Int.mul_lt_mul_of_pos_right (show -q<i by omega) hp
   rw[Int.neg_mul] at this;omega
  ·have:=Int.mul_le_mul_of_nonneg_right h2 (Int.le_of_lt hp);omega
theorem Z6k {s i:Int} (hi:InS s i) : -262144<i∧i≤262144:=by
 have hp:=Z8k s;obtain⟨h1,h2⟩:=hi;constructor
 ·by_cases h:i ≤ -262144
  ·have:=Int.mul_le_mul_of_nonneg_right h (Int.le_of_lt hp)
   have h3 : -262144*stp s ≤ -262144*1:=by
    have:=Int.mul_le_mul_of_nonneg_left (show 1≤stp s by omega) (show(0:Int)≤262144 by omega);omega
   omega
  ·omega
 ·by_cases h:262144<i
  ·have:=Int.mul_le_mul_of_nonneg_right (show 262145≤i by omega) (Int.le_of_lt hp)
   have h3:=Int.mul_le_mul_of_nonneg_left (show 1≤stp s by omega) (show(0:Int)≤262145 by omega);omega
  ·omega
theorem in_T {s i:Int} (h:Z3n s):Z52.f s i=some (decide (InS s i)):=by
 have hp:=Z8k s;have hq:0≤262144 / stp s∧262144 / stp s≤262144:=⟨Int.ediv_nonneg (by omega) (by omega),Int.ediv_le_self _ (by omega)⟩
 unfold Z52.f Z3x.f;rw[right_T h,most_T h];simp only[sb,if_pos];rw[Z0b (n:=0-_) (by omega) (by omega),Z0b (by omega) (by omega),ifand,sb];congr 1;rw[← Bool.decide_and,decide_eq_decide,inS_iff h];constructor<;>intro h<;>constructor<;>omega
theorem low_T {s i:Int} (h:Z3n s) (hi:InS s i):Z4i.f s i=some ((i-1)*stp s):=by
 have:=Z6k hi;unfold Z4i.f;rw[Z0b (by omega) (by omega),units_T h (by omega)];rfl
theorem Z7v (s:Int):Z27.f s=some (decide (Z3n s)):=by
 unfold Z27.f;rw[ifand,← Bool.decide_and];rfl
theorem ref_step_l0 (s:Int):∀ (n:Nat) (x i:Int),i≤8→8-i=(n:Int) → -4≤i→0≤x→x*2 ^ n≤4096→Z2r.l0 x i=some (x*2 ^ n):=by
 intro n
 induction n with
 | zero=>intro x i h1 h2 h3 h4 h5;rw[Z2r.l0,if_neg (by simp;omega)];simp
 | succ n ih =>
  intro x i h1 h2 h3 h4 h5;have e:x*2 ^ (n+1)=x*2*2 ^ n:=by rw[Int.pow_succ,Int.mul_assoc,Int.mul_comm 2]
  have hp:(0:Int)<2 ^ n:=Int.pow_pos (by omega);have hle:x*2≤4096:=by
   have:=Int.mul_le_mul_of_nonneg_left (show(1:Int)≤2 ^ n by omega) (show 0≤x*2 by omega);omega
  rw[Z2r.l0,if_pos (by simp;omega),Z0b (n:=x*2) (by omega) (by omega),Z0b (n:=i+1) (by omega) (by omega),ih (x*2) (i+1) (by omega) (by omega) (by omega) (by omega) (by omega),e]
theorem ref_step {s:Int} (h:Z3n s):Z2r.f s=some (stp s):=by
 unfold Z2r.f;have h1:=h.1;have h2:=h.2;rw[ref_step_l0 s (8-s).toNat 1 s h2 (by omega) h1 (by omega) (by rw[Int.one_mul];exact stp_le h)];simp[stp]
theorem Zac {s i:Int} (h:Z3n s) (hi : -1000000000000<i∧i<1000000000000):Z2w.f s i=some (i*stp s):=by
 unfold Z2w.f;rw[Z7v,sb,if_neg (by simp[h]),ref_step h,sb];have h1:=Z8k s;have h2:=stp_le h;have h3:i*stp s≤1000000000000*4096:=by
  by_cases h0:0≤i
  ·exact Int.mul_le_mul (by omega) h2 (by omega) (by omega)
  ·have:i*stp s≤0:=Int.mul_nonpos_of_nonpos_of_nonneg (by omega) (by omega);omega
 have h4 : -(1000000000000*4096)≤i*stp s:=by
  by_cases h0:0≤i
  ·have:0≤i*stp s:=Int.mul_nonneg h0 (by omega);omega
  ·have : -i*stp s≤1000000000000*4096:=Int.mul_le_mul (by omega) h2 (by omega) (by omega)
   rw[Int.neg_mul] at this;omega
 rw[Z0b (by omega) (by omega)]
theorem ref_in {s i:Int} (h:Z3n s) (hi:I64 i):Z6z.f s i=some (decide (InS s i)):=by
 unfold Z6z.f;rw[Z7v,sb,if_pos (by simp[h])];by_cases h1:i > -262144
 ·rw[if_pos (by simpa using h1)]
  by_cases h2:i≤262144
  ·rw[if_pos (by simpa using h2),Zac       h (by omega),sb]
   by_cases h3:i*stp s > -262144
   ·rw[if_pos (by simpa using h3),sb,sb]
    congr 1;rw[decide_eq_decide];exact⟨fun h=>⟨h3,h⟩,fun h=>h.2⟩
   ·rw[if_neg (by simpa using h3),sb]
    have:¬ InS s i:=fun h=>h3 h.1;simp[this]
  ·rw[if_neg (by simpa using h2),sb]
   have:¬ InS s i:=fun h=>by have:=Z6k h;omega
   simp[this]
 ·rw[if_neg (by simpa using h1),sb]
  have:¬ InS s i:=fun h=>by have:=Z6k h;omega
  simp[this]
structure BOk (s z:Int) (b:Z0v):Prop where
 ins:InS s b.f0
 pos:0<b.f1
 low:z≤(b.f0-1)*stp s
def Up:Option Int→List Z0v→Prop
 | _,[]=>True
 | p,b::l=>(∀ q,p=some q→q<b.f0)∧Up (some b.f0) l
theorem up_iff:∀ (l:List Z0v) (p:Option Int),Up p l↔(∀ q,p=some q→∀ b∈l,q<b.f0)∧l.Pairwise (fun a b=>a.f0<b.f0)
 | [],p=>by simp[Up]
 | x::l,p=>by
  rw[Up,up_iff l,List.pairwise_cons];constructor
  ·rintro⟨h1,h2,h3⟩
   refine⟨fun q hq b hb => ?_,fun b hb=>h2 _ rfl b hb,h3⟩;have h4:=h1 q hq;rcases List.mem_cons.1 hb with rfl | hb
   ·exact h4
   ·have:=h2 _ rfl b hb;omega
  ·rintro⟨h1,h2,h3⟩
   exact⟨fun q hq=>h1 q hq x (by simp),fun q hq b hb=>by cases hq;exact h2 b hb,h3⟩
structure Side (s z:Int) (l:List Z0v):Prop where
 len:l.length≤512
 ok:∀ b∈l,BOk s z b
 up:l.Pairwise (fun a b=>a.f0<b.f0)
structure Z9o (h:Z20):Prop where
 kind:h.f0=0∨h.f0=1
 schema:Z3n h.f1
 zero:h.f2 = -524288∨(-262144<h.f2∧h.f2≤262144)
 pos:Side h.f1 h.f2 h.f6
 neg:Side h.f1 h.f2 h.f7
 total:cnt h.f6+cnt h.f7+h.f3<18446744073709551616
 count:h.f4=cnt h.f6+cnt h.f7+h.f3
theorem last_pre {l pre:List Z0v} {x:Z0v} {suf:List Z0v} {i:Int} (h1:l=pre++x::suf) (hi:i=(pre.length:Int)) (h0:0<i) (hl:l.length<1000000000) :
  ∃ q,(pre.getLast?).map (·.f0)=some q∧∃ y,at? l (i64.wrap (i-1))=some y∧y.f0=q:=by
 rcases List.eq_nil_or_concat pre with rfl | ⟨P,p,rfl⟩
 ·simp at hi;omega
 ·simp only[List.concat_eq_append] at *
  have hlen:l.length=P.length+1+(suf.length+1):=by rw[h1];simp;omega
  have hi2:i=(P.length:Int)+1:=by rw[hi];simp
  rw[Z0b (by omega) (by omega)];exact⟨p.f0,by simp,p,Z1s (pre:=P) (suf:=x::suf) (by simp[h1]) (by omega),rfl⟩
theorem no_pre {pre:List Z0v} {i:Int} (hi:i=(pre.length:Int)) (h0:¬ 0<i):(pre.getLast?).map (·.f0)=none:=by
 have:pre=[]:=List.length_eq_zero_iff.1 (by omega);subst this;rfl
theorem ref_add_l0 (l:List Int) (hl:l.length<4611686018427387904):∀ (suf pre:List Int) (acc i:Int),l=pre++suf→i=(pre.length:Int)→U64 acc→(∀ x∈suf,U64 x) →
  Z39.l0 l acc i=some (if acc+suf.sum<18446744073709551616 then .inr (acc+suf.sum) else .inl (0,5)):=by
 intro suf
 induction suf with
 | nil =>
  intro pre acc i h1 hi ha hs;subst h1;rw[Z39.l0,if_neg (by simp[hi])];simp[ha.2]
 | cons x suf ih =>
  intro pre acc i h1 hi ha hs;have hx:=hs x (by simp);have hs':∀ y∈suf,U64 y:=fun y hy=>hs y (by simp[hy])
  have hnn:0≤suf.sum:=Z5a (fun y hy=>(hs' y hy).1);have hlen:(l.length:Int)=pre.length+(suf.length+1):=by rw[h1];simp
  rw[Z39.l0,if_pos (by rw[h1];simp[hi];omega),Z1s h1 hi,sb,Z9z (n:=18446744073709551615-acc) (by omega) (by omega)];by_cases hov:acc+x<18446744073709551616
  ·rw[if_neg (by simp;omega),Z0b    (by omega) (by omega),Z9z   (by omega) (by omega)]
   rw[ih (pre++[x]) (acc+x) (i+1) (by simp[h1]) (by simp;omega) ⟨by omega,hov⟩ hs'];rw[List.sum_cons,Int.add_assoc]
  ·rw[if_pos (by simp;omega),if_neg (by rw[List.sum_cons];omega)]
theorem ref_add (l:List Int) (hl:l.length<4611686018427387904) (h:∀ x∈l,U64 x) :
  Z39.f l=some (if l.sum<18446744073709551616 then(l.sum,0) else(0,5)):=by
 unfold Z39.f;rw[ref_add_l0 l hl l [] 0 0 rfl rfl (by omega) h,sb,Int.zero_add];by_cases h:l.sum<18446744073709551616
 ·rw[if_pos h,if_pos h]
 ·rw[if_neg h,if_neg h]
theorem ref_check_l1 (h:Z20) (x124:Int) (l:List Z0v) (hs:Z3n h.f1) (hl:l.length<1000000):∀ (suf pre:List Z0v) (acc:List Int) (i:Int),l=pre++suf→i=(pre.length:Int)→acc.length+suf.length<10000000→(∀ b∈suf,I64 b.f0∧U64 b.f1) →
  ∃ r,Z0p.l1 h x124 l acc i=some r∧(∀ c,r = .inl c→c≠0)∧((∃ a,r = .inr a)↔(∀ b∈suf,BOk h.f1 h.f2 b)∧Up ((pre.getLast?).map (·.f0)) suf)∧∀ a,r = .inr a→a=acc++suf.map (·.f1):=by
 intro suf
 induction suf with
 | nil =>
  intro pre acc i h1 hi _ _;subst h1;rw[Z0p.l1,if_neg (by simp[hi])];exact⟨_,rfl,by simp,by simp[Up],by simp⟩
 | cons x suf ih =>
  intro pre acc i h1 hi ha hU;have hx:=hU x (by simp);have hlen:(l.length:Int)=pre.length+(suf.length+1):=by rw[h1];simp
  simp only[List.length_cons] at ha;rw[Z0p.l1,if_pos (by simp;omega),Z1s h1 hi,sb,ref_in hs hx.1,sb];by_cases c1:InS h.f1 x.f0
  case neg =>
   rw[if_pos (by simp[c1])];exact⟨_,rfl,by simp,by simp;intro h;exact absurd h.ins c1,by simp⟩
  rw[if_neg (by simp[c1])];have hsm:=Z6k c1;have hprev:∃ c:Bool,((if(decide (i>(0:Int)))=true then((at? l (i64.wrap (i-(1:Int))))>>=fun b168=>some (decide (x.f0≤b168.f0))) else(some false)):Option (Bool))=some c∧(c=false↔∀ q,(pre.getLast?).map (·.f0)=some q→q<x.f0):=by
   by_cases h0:0<i
   ·obtain⟨q,e1,y,e2,e3⟩:=last_pre h1 hi h0 (by omega)
    rw[if_pos (by simpa using h0),e2,sb];exact⟨_,rfl,by rw[e1,e3];simp⟩
   ·rw[if_neg (by simpa using h0)]
    exact⟨_,rfl,by rw[no_pre hi h0];simp⟩
  obtain⟨c,ec,hc⟩:=hprev;rw[ec,sb,Z0b (n:=x.f0-1) (by omega) (by omega),Zac hs (by omega)];cases c with
  | true =>
   rw[if_pos rfl];refine⟨_,rfl,by simp,by simp;intro _ _ h2;exact absurd (hc.2 h2.1) (by simp),by simp⟩
  | false =>
   rw[if_neg (by simp)];by_cases c2:x.f1=0
   ·rw[if_pos (by simpa using c2)]
    exact⟨_,rfl,by simp,by simp;intro h;have:=h.pos;omega,by simp⟩
   rw[if_neg (by simpa using c2),sb];by_cases c3:(x.f0-1)*stp h.f1<h.f2
   ·rw[if_pos (by simpa using c3)]
    exact⟨_,rfl,by simp,by simp;intro h;have:=h.low;omega,by simp⟩
   rw[if_neg (by simpa using c3),chkB (by simp;omega),Z0b (n:=i+1) (by omega) (by omega)];obtain⟨r,e,e1,e2,e3⟩:=ih (pre++[x]) (acc++[x.f1]) (i+1) (by simp[h1]) (by simp;omega) (by simp;omega) (fun b hb=>hU b (by simp[hb]));refine⟨r,e,e1,?_,fun a ha=>by rw[e3 a ha];simp⟩;rw[e2];simp only[List.getLast?_append,List.getLast?_singleton,Option.some_or,Option.map_some,Up,List.forall_mem_cons];have hb:BOk h.f1 h.f2 x:=⟨c1,by omega,by omega⟩
   constructor
   ·rintro⟨a,b⟩;exact⟨⟨hb,a⟩,hc.1 rfl,b⟩
   ·rintro⟨⟨_,a⟩,_,b⟩;exact⟨a,b⟩
theorem Z7a (h:Z20) (x124:Int) (l:List Z0v) (acc:List Int) (hs:Z3n h.f1) (hl:l.length<1000000000000000) (ha:acc.length<1000000) (hU:∀ b∈l,I64 b.f0∧U64 b.f1) :
  ∃ r:Int ⊕ List Int,(if(decide ((l.length:Int)>(512:Int)))=true then(some (.inl 9)) else(Z0p.l1 h x124 l acc 0))=some r∧(∀ c,r = .inl c→c≠0)∧((∃ a,r = .inr a)↔Side h.f1 h.f2 l)∧∀ a,r = .inr a→a=acc++l.map (·.f1):=by
 by_cases h0:l.length>512
 ·rw[if_pos (by simp;omega)]
  exact⟨_,rfl,by simp,by simp;intro h;have:=h.len;omega,by simp⟩
 ·rw[if_neg (by simp;omega)]
  obtain⟨r,e,e1,e2,e3⟩:=ref_check_l1 h x124 l hs (by omega) l [] acc 0 rfl rfl (by omega) hU;refine⟨r,e,e1,e2.trans ⟨fun⟨h1,h2⟩=>⟨by omega,h1,((up_iff l _).1 h2).2⟩,fun h=>⟨h.ok,(up_iff l _).2 ⟨by simp,h.up⟩⟩⟩,e3⟩
theorem ref_check_iff (h:Z20) (hf:Fits h) (hp:h.f6.length<1000000000000000) (hn:h.f7.length<1000000000000000):∃ r,Z0p.f h=some r∧(r=0↔Z9o h):=by
 unfold Z0p.f;have hk:((if(h.f0 != (0:Int))=true then(some (h.f0 != (1:Int))) else(some false)):Option (Bool))=some (!decide (h.f0=0∨h.f0=1)):=by
  by_cases h1:h.f0=0
  ·simp[h1]
  ·by_cases h2:h.f0=1<;>simp[h1,h2]
 rw[hk,sb];by_cases c1:h.f0=0∨h.f0=1
 case neg=>rw[if_pos (by simpa using c1)];exact⟨_,rfl,by simp;intro h;exact c1 h.kind⟩
 rw[if_neg (by rw[decide_eq_true c1];decide),Z7v,sb];by_cases c2:Z3n h.f1
 case neg=>rw[if_pos (by simp[c2])];exact⟨_,rfl,by simp;intro h;exact c2 h.schema⟩
 rw[if_neg (by simp[c2])];have hz:((if(h.f2 != (-524288))=true then(if(decide (h.f2≤(-262144)))=true then(some true) else(some (decide (h.f2>(262144:Int))))) else(some false)):Option (Bool))=some (!decide (h.f2 = -524288∨(-262144<h.f2∧h.f2≤262144))):=by
  by_cases h1:h.f2 = -524288
  ·simp[h1]
  ·by_cases h2:h.f2 ≤ -262144
   ·simp[h1,h2]
   ·have h4 : -262144<h.f2:=by omega
    by_cases h3:h.f2≤262144
    ·simp[h1,h2,h3,h4]
    ·simp[h1,h2,h3,h4];omega
 rw[hz,sb];by_cases c3:h.f2 = -524288∨(-262144<h.f2∧h.f2≤262144)
 case neg=>rw[if_pos (by simp[c3])];exact⟨_,rfl,by simp;intro h;exact c3 h.zero⟩
 rw[if_neg (by simp[c3])];obtain⟨r1,e1,n1,i1,j1⟩:=Z7a h 0 h.f6 [h.f3] c2 hp (by simp) hf.pos;have w1:i64.wrap (0+1)=1:=by decide
 have w2:i64.wrap (1+1)=2:=by decide
 have step:∀ (k:Int) (l:List Z0v) (acc:List Int),(k=0∧l=h.f6∨k=1∧l=h.f7)→Z0p.l0 h acc k=((if(decide ((l.length:Int)>(512:Int)))=true then(some (.inl 9)) else(Z0p.l1 h k l acc 0))>>=fun(oo:Int ⊕ List Int)=>match oo with | .inl rr=>(some (.inl rr)) | .inr x181=>(Z0p.l0 h x181 (k+1))):=by
  intro k l acc hk;rcases hk with ⟨rfl,rfl⟩ | ⟨rfl,rfl⟩
  ·rw[Z0p.l0,if_pos (by decide),if_neg (by decide),sb,w1,Z89];rfl
  ·rw[Z0p.l0,if_pos (by decide),if_pos (by decide),sb,w2,Z89];rfl
 rw[step 0 h.f6 _ (.inl ⟨rfl,rfl⟩),e1,sb];cases r1 with
 | inl c=>exact⟨c,rfl,fun h=>absurd h (n1 c rfl),fun h=>by obtain⟨a,e⟩:=i1.2 h.pos;cases e⟩
 | inr a1 =>
  have hv1:=i1.1 ⟨_,rfl⟩;have ha1:=j1 a1 rfl;have hl1:=hv1.len;obtain⟨r2,e2,n2,i2,j2⟩:=Z7a h 1 h.f7 a1 c2 hn (by rw[ha1];simp;omega) hf.neg;simp only[];rw[show(0:Int)+1=1 from rfl,step 1 h.f7 _ (.inr ⟨rfl,rfl⟩),e2,sb];cases r2 with
  | inl c=>exact⟨c,rfl,fun h=>absurd h (n2 c rfl),fun h=>by obtain⟨a,e⟩:=i2.2 h.neg;cases e⟩
  | inr a2 =>
   have hv2:=i2.1 ⟨_,rfl⟩;have ha2:=j2 a2 rfl;have hl2:=hv2.len;simp only[];rw[show(1:Int)+1=2 from rfl,Z0p.l0,if_neg (by decide),sb];simp only[];have hall:a2=[h.f3]++h.f6.map (·.f1)++h.f7.map (·.f1):=by rw[ha2,ha1]
   have hsum:a2.sum=cnt h.f6+cnt h.f7+h.f3:=by rw[hall];simp[cnt];omega
   rw[ref_add a2 (by rw[hall];simp;omega) (by
    intro x hx;rw[hall] at hx;simp only[List.mem_append,List.mem_singleton,List.mem_map] at hx;rcases hx with (rfl | ⟨b,hb,rfl⟩) | ⟨b,hb,rfl⟩
    ·exact hf.zero
    ·exact(hf.pos b hb).2
    ·exact(hf.neg b hb).2),sb,hsum]
   by_cases c4:cnt h.f6+cnt h.f7+h.f3<18446744073709551616
   case neg=>rw[if_neg c4,if_pos (by simp)];exact⟨_,rfl,by simp;intro h;exact c4 h.total⟩
   rw[if_pos c4,if_neg (by simp)];by_cases c5:cnt h.f6+cnt h.f7+h.f3=h.f4
   ·rw[if_neg (by simpa using c5)]
    exact⟨0,rfl,fun _=>⟨c1,c2,c3,hv1,hv2,c4,c5.symm⟩,fun _=>rfl⟩
   ·rw[if_pos (by simpa using c5)]
    exact⟨_,rfl,by simp;intro h;exact c5 h.count.symm⟩
theorem bk_same (h:Z20) (x124:Int) (l:List Z0v) (hs:Z3n h.f1) (hl:l.length<1000000):∀ (suf pre:List Z0v) (acc:List Int) (i:Int),l=pre++suf→i=(pre.length:Int)→acc.length+suf.length<10000000→(∀ b∈suf,I64 b.f0∧U64 b.f1) →
  ∃ r:Int,Z0y.l0 h l i=some (if r=0 then .inr () else .inl r)∧Z0p.l1 h x124 l acc i=some (if r=0 then .inr (acc++suf.map (·.f1)) else .inl r):=by
 intro suf
 induction suf with
 | nil =>
  intro pre acc i h1 hi _ _;subst h1;refine⟨0,?_,?_⟩
  ·rw[Z0y.l0,if_neg (by simp[hi]),if_pos rfl]
  ·rw[Z0p.l1,if_neg (by simp[hi]),if_pos rfl];simp
 | cons x suf ih =>
  intro pre acc i h1 hi ha hU;have hx:=hU x (by simp);have hlen:(l.length:Int)=pre.length+(suf.length+1):=by rw[h1];simp
  simp only[List.length_cons] at ha;by_cases c1:InS h.f1 x.f0
  case neg =>
   refine⟨4,?_,?_⟩
   ·rw[Z0y.l0,if_pos (by simp;omega),Z1s h1 hi,sb,in_T hs,sb,if_pos (by simp[c1]),if_neg (by omega)]
   ·rw[Z0p.l1,if_pos (by simp;omega),Z1s h1 hi,sb,ref_in hs hx.1,sb,if_pos (by simp[c1]),if_neg (by omega)]
  have hsm:=Z6k c1;obtain⟨c,ec1,ec2⟩:∃ c:Bool,((if(decide (i>(0:Int)))=true then((at? l (i64.wrap (i-(1:Int))))>>=fun b922=>some (decide (b922.f0≥x.f0))) else(some false)):Option (Bool))=some c ∧
    ((if(decide (i>(0:Int)))=true then((at? l (i64.wrap (i-(1:Int))))>>=fun b168=>some (decide (x.f0≤b168.f0))) else(some false)):Option (Bool))=some c:=by
   by_cases h0:0<i
   ·obtain⟨q,e1,y,e2,e3⟩:=last_pre h1 hi h0 (by omega)
    exact⟨decide (x.f0≤y.f0),by rw[if_pos (by simpa using h0),e2,sb],by rw[if_pos (by simpa using h0),e2,sb]⟩
   ·exact⟨false,by rw[if_neg (by simpa using h0)],by rw[if_neg (by simpa using h0)]⟩
  have P:Z0y.l0 h l i=(if c=true then some (.inl 32) else if x.f1=0 then some (.inl 21) else if(x.f0-1)*stp h.f1<h.f2 then some (.inl 31) else Z0y.l0 h l (i+1)):=by
   rw[Z0y.l0,if_pos (by simp;omega),Z1s h1 hi,sb,in_T hs,sb,if_neg (by simp[c1]),ec1,sb,low_T hs c1,Z0b (n:=i+1) (by omega) (by omega)];simp only[sb];simp
  have Q:Z0p.l1 h x124 l acc i=(if c=true then some (.inl 32) else if x.f1=0 then some (.inl 21) else if(x.f0-1)*stp h.f1<h.f2 then some (.inl 31) else Z0p.l1 h x124 l (acc++[x.f1]) (i+1)):=by
   rw[Z0p.l1,if_pos (by simp;omega),Z1s h1 hi,sb,ref_in hs hx.1,sb,if_neg (by simp[c1]),ec2,sb,Z0b (n:=x.f0-1) (by omega) (by omega),Zac hs (by omega),chkB (by simp;omega),Z0b (n:=i+1) (by omega) (by omega)];simp only[sb];simp
  cases c with
  | true=>exact⟨32,by rw[P,if_pos rfl,if_neg (by omega)],by rw[Q,if_pos rfl,if_neg (by omega)]⟩
  | false =>
   by_cases c2:x.f1=0
   ·exact⟨21,by rw[P,if_neg (by simp),if_pos c2,if_neg (by omega)],by rw[Q,if_neg (by simp),if_pos c2,if_neg (by omega)]⟩
   by_cases c3:(x.f0-1)*stp h.f1<h.f2
   ·exact⟨31,by rw[P,if_neg (by simp),if_neg c2,if_pos c3,if_neg (by omega)],by rw[Q,if_neg (by simp),if_neg c2,if_pos c3,if_neg (by omega)]⟩
   obtain⟨r,e1,e2⟩:=ih (pre++[x]) (acc++[x.f1]) (i+1) (by simp[h1]) (by simp;omega) (by simp;omega) (fun b hb=>hU b (by simp[hb]));exact⟨r,by rw[P,if_neg (by simp),if_neg c2,if_neg c3,e1],by rw[Q,if_neg (by simp),if_neg c2,if_neg c3,e2];simp⟩
theorem side_same (h:Z20) (x124:Int) (l:List Z0v) (acc:List Int) (hs:Z3n h.f1) (ha:acc.length<1000000) (hU:∀ b∈l,I64 b.f0∧U64 b.f1) :
  ∃ r:Int,Z0y.f h l=some r∧(if(decide ((l.length:Int)>(512:Int)))=true then(some (.inl 9)) else(Z0p.l1 h x124 l acc 0))=some (if r=0 then Sum.inr (acc++l.map (·.f1)) else .inl r):=by
 by_cases h0:l.length>512
 ·refine⟨9,?_,?_⟩
  ·unfold            Z0y.f
   rw[if_pos (by simp;omega)]
  ·rw[if_pos (by simp;omega),if_neg (by omega)]
 ·obtain⟨r,e1,e2⟩:=bk_same h x124 l hs (by omega) l [] acc 0 rfl rfl (by omega) hU
  refine⟨r,?_,?_⟩
  ·unfold            Z0y.f
   rw[if_neg (by simp;omega),e1,sb];by_cases c:r=0
   ·rw[if_pos c];simp[c]
   ·rw[if_neg c]
  ·rw[if_neg (by simp;omega),e2]
theorem check_same (h:Z20) (hf:Fits h) (hp:h.f6.length<1000000000000000) (hn:h.f7.length<1000000000000000):∃ r,Z1q.f h=some r∧Z0p.f h=some r∧(r=0↔Z9o h):=by
 obtain⟨r,er,hr⟩:=ref_check_iff h hf hp hn;refine⟨r,?_,er,hr⟩
 suffices q:Z0p.f h=Z1q.f h by rw[← q];exact er
 clear er hr;have hk:((if(h.f0 != (0:Int))=true then(some (h.f0 != (1:Int))) else(some false)):Option (Bool))=some (!decide (h.f0=0∨h.f0=1)):=by
  by_cases h1:h.f0=0
  ·simp[h1]
  ·by_cases h2:h.f0=1<;>simp[h1,h2]
 have hz:((if(h.f2 != (-524288))=true then(if(decide (h.f2≤(-262144)))=true then(some true) else(some (decide (h.f2>(262144:Int))))) else(some false)):Option (Bool))=some (!decide (h.f2 = -524288∨(-262144<h.f2∧h.f2≤262144))):=by
  by_cases h1:h.f2 = -524288
  ·simp[h1]
  ·by_cases h2:h.f2 ≤ -262144
   ·simp[h1,h2]
   ·have h4 : -262144<h.f2:=by omega
    by_cases h3:h.f2≤262144
    ·simp[h1,h2,h3,h4]
    ·simp[h1,h2,h3,h4];omega
 unfold Z1q.f Z0p.f;rw[hk,sb,sb,Z7v];by_cases c1:h.f0=0∨h.f0=1
 case neg=>rw[if_pos (by simpa using c1),if_pos (by simpa using c1)]
 have hk1:¬ ((!decide (h.f0=0∨h.f0=1))=true):=by rw[decide_eq_true c1];decide
 rw[if_neg hk1,if_neg hk1];by_cases c2:Z3n h.f1
 case neg=>rw[right_F c2,sb,sb,if_pos (by simp[c2]),if_pos (by simp)]
 rw[right_T c2,sb,sb];rw[if_neg (show ¬ ((!decide (Z3n h.f1))=true) by simp[c2]),if_neg (show ¬ ((!true)=true) by simp),hz,sb,sb];by_cases c3:h.f2 = -524288∨(-262144<h.f2∧h.f2≤262144)
 case neg =>
  have hk3:(!decide (h.f2 = -524288∨(-262144<h.f2∧h.f2≤262144)))=true:=by rw[decide_eq_false c3];rfl
  rw[if_pos hk3,if_pos hk3]
 have hk3:¬ ((!decide (h.f2 = -524288∨(-262144<h.f2∧h.f2≤262144)))=true):=by rw[decide_eq_true c3];decide
 rw[if_neg hk3,if_neg hk3];obtain⟨r1,p1,q1⟩:=side_same h 0 h.f6 [h.f3] c2 (by simp) hf.pos;have w1:i64.wrap (0+1)=1:=by decide
 have w2:i64.wrap (1+1)=2:=by decide
 have step:∀ (k:Int) (l:List Z0v) (acc:List Int),(k=0∧l=h.f6∨k=1∧l=h.f7)→Z0p.l0 h acc k=((if(decide ((l.length:Int)>(512:Int)))=true then(some (.inl 9)) else(Z0p.l1 h k l acc 0))>>=fun(oo:Int ⊕ List Int)=>match oo with | .inl rr=>(some (.inl rr)) | .inr x181=>(Z0p.l0 h x181 (k+1))):=by
  intro k l acc hk;rcases hk with ⟨rfl,rfl⟩ | ⟨rfl,rfl⟩
  ·rw[Z0p.l0,if_pos (by decide),if_neg (by decide),sb,w1,Z89];rfl
  ·rw[Z0p.l0,if_pos (by decide),if_pos (by decide),sb,w2,Z89];rfl
 rw[step 0 h.f6 _ (.inl ⟨rfl,rfl⟩),q1,sb,check_l0_eq,p1,sb];by_cases d1:r1=0
 case neg=>rw[if_neg d1,if_pos (by simpa using d1)];simp only[sb]
 rw[if_pos d1,if_neg (by simpa using d1)];by_cases hlen6:h.f6.length≤512
 case neg =>
  exfalso;have:Z0y.f h h.f6=some 9:=by unfold Z0y.f;rw[if_pos (by simp;omega)]
  rw[p1] at this;simp at this;omega
 obtain⟨r2,p2,q2⟩:=side_same h 1 h.f7 ([h.f3]++h.f6.map (·.f1)) c2 (by simp;omega) hf.neg;simp only[];rw[show(0:Int)+1=1 from rfl,step 1 h.f7 _ (.inr ⟨rfl,rfl⟩),q2,sb,p2,sb];by_cases d2:r2=0
 case neg=>rw[if_neg d2,if_pos (by simpa using d2)];simp only[sb]
 rw[if_pos d2,if_neg (by simpa using d2)];by_cases hlen7:h.f7.length≤512
 case neg =>
  exfalso;have:Z0y.f h h.f7=some 9:=by unfold Z0y.f;rw[if_pos (by simp;omega)]
  rw[p2] at this;simp at this;omega
 simp only[];rw[show(1:Int)+1=2 from rfl,Z0p.l0,if_neg (by decide),sb,sb];simp only[];rw[total3 _ _ _ (by omega) (by omega) (fun b hb=>(hf.pos b hb).2) (fun b hb=>(hf.neg b hb).2) hf.zero,sb];have hsum:(([h.f3]++h.f6.map (·.f1))++h.f7.map (·.f1)).sum=cnt h.f6+cnt h.f7+h.f3:=by simp[cnt];omega
 rw[ref_add _ (by simp;omega) (by
  intro x hx;simp only[List.mem_append,List.mem_singleton,List.mem_map] at hx;rcases hx with (rfl | ⟨b,hb,rfl⟩) | ⟨b,hb,rfl⟩
  ·exact hf.zero
  ·exact(hf.pos b hb).2
  ·exact(hf.neg b hb).2),sb,hsum]
 by_cases c4:cnt h.f6+cnt h.f7+h.f3<18446744073709551616
 ·rw[if_pos c4];try simp
 ·rw[if_neg c4];try simp
end Go.Proofs.YtpoihfcehejgfaaGreat.PvGS
namespace Go.Proofs.YtpoihfcehejgfaaGreat.PvGS
open Go Go.Pv Go.Pv.GS Go.IntKind
open Classical
structure Bs (s z:Int) (l:List Z0v):Prop where
 len:l.length≤5000
 ok:∀ b∈l,InS s b.f0∧0≤b.f1∧z≤(b.f0-1)*stp s
def Strad (s a:Int) (l:List Z0v):Prop:=∃ b∈l,(b.f0-1)*stp s<a∧a<b.f0*stp s
def cg (s a:Int):Int:=-((-a) / stp s)*stp s
abbrev above (s a i:Int):Bool:=decide (a<i*stp s)
abbrev dropL (s a:Int) (l:List Z0v):List Z0v:=l.filter (fun b => !above s a b.f0)
noncomputable def zAt (s a:Int) (p n:List Z0v):Int:=if Strad s a p∨Strad s a n then cg s a else a
structure Cs (s:Int) (l:List Z0v):Prop where
 len:l.length≤5000
 ins:∀ b∈l,InS s b.f0
 pos:∀ b∈l,0<b.f1
structure Swal (h:Z20) (p n:List Z0v) (a:Int) (r:Z20):Prop where
 valid:Z9o r
 fits:Fits r
 kind:r.f0=h.f0
 schema:r.f1=h.f1
 zeroAt:r.f2=zAt h.f1 a p n
 zero:r.f3=h.f3+cnt (dropL h.f1 (zAt h.f1 a p n) p)+cnt (dropL h.f1 (zAt h.f1 a p n) n)
 sum:r.f5=h.f5
 tpos:∀ i,tot r.f6 i=if above h.f1 (zAt h.f1 a p n) i=true then tot p i else 0
 tneg:∀ i,tot r.f7 i=if above h.f1 (zAt h.f1 a p n) i=true then tot n i else 0
 count:r.f4=cnt p+cnt n+h.f3
def rat (f t:Int):Int:=2 ^ (f-t).toNat
def upI (f t i:Int):Int:=-((-i) / rat f t)
def downL (f t:Int) (l:List Z0v):List Z0v:=l.map (fun b=>⟨upI f t b.f0,b.f1⟩)
def h0:Z20:=⟨0,0,0,0,0,0,[],[]⟩
structure Cut (a:Z20) (s z:Int) (r:Z20):Prop where
 valid:Z9o r
 fits:Fits r
 kind:r.f0=a.f0
 schema:r.f1=s
 zeroAt:r.f2=z
 count:r.f4=a.f4
 sum:r.f5=a.f5
 tpos:∀ i,tot r.f6 i=if above s z i=true then tot (downL a.f1 s a.f6) i else 0
 tneg:∀ i,tot r.f7 i=if above s z i=true then tot (downL a.f1 s a.f7) i else 0
def Cand (hv:Bool) (last:Int) (b:Z0v):Prop:=hv=false∨last<b.f0
structure Least (hv:Bool) (last:Int) (l:List Z0v) (fd:Bool) (nx:Int):Prop where
 none:fd=false→∀ b∈l,¬ Cand hv last b
 some:fd=true→(∃ b∈l,Cand hv last b∧b.f0=nx)∧∀ b∈l,Cand hv last b→nx≤b.f0
structure Pair (p q:Z20):Prop where
 vp:Z9o p
 vq:Z9o q
 fp:Fits p
 fq:Fits q
 schema:p.f1=q.f1
 zeroAt:p.f2=q.f2
structure Sumd (p q r:Z20):Prop where
 valid:Z9o r
 fits:Fits r
 kind:r.f0=if q.f0>p.f0 then q.f0 else p.f0
 schema:r.f1=p.f1
 zeroAt:r.f2=p.f2
 zero:r.f3=p.f3+q.f3
 count:r.f4=p.f4+q.f4
 sum:r.f5=p.f5+q.f5
 tpos:∀ i,tot r.f6 i=tot p.f6 i+tot q.f6 i
 tneg:∀ i,tot r.f7 i=tot p.f7 i+tot q.f7 i
structure Lessd (p q r:Z20):Prop where
 valid:Z9o r
 fits:Fits r
 kind:r.f0=p.f0
 schema:r.f1=p.f1
 zeroAt:r.f2=p.f2
 zero:r.f3=p.f3-q.f3
 count:r.f4=p.f4-q.f4
 sum:r.f5=p.f5-q.f5
 tpos:∀ i,tot r.f6 i=tot p.f6 i-tot q.f6 i
 tneg:∀ i,tot r.f7 i=tot p.f7 i-tot q.f7 i
end Go.Proofs.YtpoihfcehejgfaaGreat.PvGS
namespace Go.Proofs.YtpoihfcehejgfaaGreat.PvGS
open Go Go.Pv Go.Pv.GS Go.IntKind
def sideI (k:Int) (h:Z20):List Z0v:=if k=0 then h.f6 else h.f7
def allI (k:Int) (l:List Zi):List Int:=l.foldl (fun u s=>uni u ((sideI k s.f1).map (·.f0))) []
structure COk (l:List Zi):Prop where
 ok:∀ s∈l,Z9o s.f1∧0≤s.f0∧s.f0≤1099511627776
 len:l.length≤32
 up:l.Pairwise (fun a b=>a.f0<b.f0)
 head:∀ s∈l,∀ t∈l,s.f1.f0=t.f1.f0∧s.f1.f1=t.f1.f1∧s.f1.f2=t.f1.f2
 pos:(allI 0 l).length≤512
 neg:(allI 1 l).length≤512
theorem COk.nil:COk []:=⟨by simp,by simp,by simp,by simp,by simp[allI],by simp[allI]⟩
def row0 (r:List Int):List Bool:=r.flatMap fun n=>cnt2 n.toNat
theorem eqloop {α:Type} [DecidableEq α] (a b:List α) (hl:a.length=b.length) (ha:a.length<1000000000000) (ne:α→α→Bool) (hne:∀ x y,ne x y = !decide (x=y)) (F:Int→Option (Bool ⊕ Unit)) (hF:∀ i,F i=if(decide (i<(a.length:Int)))=true then((at? a i)>>=fun x=>(at? b i)>>=fun y=>if ne x y=true then(some (.inl false)) else F (i64.wrap (i+(1:Int)))) else(some (.inr ()))) :
  ∀ (sa pa sb' pb:List α) (i:Int),a=pa++sa→b=pb++sb'→pa.length=pb.length→i=(pa.length:Int)→F i=some (if sa=sb' then .inr () else .inl false):=by
 intro sa
 induction sa with
 | nil =>
  intro pa sb' pb i h1 h2 h3 hi;have e:sb'=[]:=by
   have l1:=congrArg List.length h1;have l2:=congrArg List.length h2;simp only[List.length_append,List.length_nil] at l1 l2;exact List.length_eq_zero_iff.1 (by omega)
  rw[hF,if_neg (by rw[h1];simp[hi]),e,if_pos rfl]
 | cons x sa ih =>
  intro pa sb' pb i h1 h2 h3 hi;have l1:=congrArg List.length h1;have l2:=congrArg List.length h2;simp only[List.length_append,List.length_cons] at l1 l2;cases sb' with
  | nil=>simp only[List.length_nil] at l2;omega
  | cons y sb' =>
   rw[hF,if_pos (by simp;omega),Z1s h1 hi,sb,Z1s h2 (by omega),sb,hne,Z0b (by omega) (by omega)];by_cases c:x=y
   ·subst c
    rw[if_neg (by simp),ih (pa++[x]) sb' (pb++[x]) (i+1) (by simp[h1]) (by simp[h2]) (by simp[h3]) (by simp;omega)];by_cases c2:sa=sb'
    ·rw[if_pos c2,if_pos (by rw[c2])]
    ·rw[if_neg c2,if_neg (by simp[c2])]
   ·rw[if_pos (by simp[c]),if_neg (by simp[c])]
theorem bkt_ne (x y:Z0v):(!((x.f0==y.f0)&&((x.f1==y.f1)&&true))) = !decide (x=y):=by
 obtain⟨a,b⟩:=x;obtain⟨c,d⟩:=y;by_cases h1:a=c<;>by_cases h2:b=d<;>simp[h1,h2]
theorem rsame_eq (a b:List Z0v) (ha:a.length<1000000000000):Z2g.f a b=some (decide (a=b)):=by
 unfold Z2g.f;by_cases hl:a.length=b.length
 ·have L:=eqloop a b hl ha (fun x y => !((x.f0==y.f0)&&((x.f1==y.f1)&&true))) bkt_ne (       Z2g.l0 a b) (fun i=>by rw[       Z2g.l0]) a [] b [] 0 rfl rfl rfl rfl
  rw[if_neg (by simp;omega),L,sb];by_cases c:a=b
  ·rw[if_pos c,decide_eq_true c]
  ·rw[if_neg c,decide_eq_false c]
 ·rw[if_pos (by simp;omega),decide_eq_false (fun h=>hl (by rw[h]))]
theorem rSame_eq (a b:Z20) (h6:a.f6.length<1000000000000) (h7:a.f7.length<1000000000000):Z51.f a b=some (decide (a=b)):=by
 unfold Z51.f;rw[rsame_eq _ _ h6,rsame_eq _ _ h7];obtain⟨a0,a1,a2,a3,a4,a5,a6,a7⟩:=a;obtain⟨b0,b1,b2,b3,b4,b5,b6,b7⟩:=b;simp only[sb];by_cases c0:a0=b0
 case neg=>rw[if_neg (by simpa using c0),sb,decide_eq_false (by simp[c0])]
 by_cases c1:a1=b1
 case neg=>rw[if_pos (by simpa using c0),if_neg (by simpa using c1),sb,decide_eq_false (by simp[c1])]
 by_cases c2:a2=b2
 case neg=>rw[if_pos (by simpa using c0),if_pos (by simpa using c1),if_neg (by simpa using c2),sb,decide_eq_false (by simp[c2])]
 by_cases c3:a3=b3
 case neg=>rw[if_pos (by simpa using c0),if_pos (by simpa using c1),if_pos (by simpa using c2),if_neg (by simpa using c3),sb,decide_eq_false (by simp[c3])]
 by_cases c4:a4=b4
 case neg=>rw[if_pos (by simpa using c0),if_pos (by simpa using c1),if_pos (by simpa using c2),if_pos (by simpa using c3),if_neg (by simpa using c4),sb,decide_eq_false (by simp[c4])]
 by_cases c5:a5=b5
 case neg=>rw[if_pos (by simpa using c0),if_pos (by simpa using c1),if_pos (by simpa using c2),if_pos (by simpa using c3),if_pos (by simpa using c4),if_neg (by simpa using c5),sb,decide_eq_false (by simp[c5])]
 rw[if_pos (by simpa using c0),if_pos (by simpa using c1),if_pos (by simpa using c2),if_pos (by simpa using c3),if_pos (by simpa using c4),if_pos (by simpa using c5)];by_cases c6:a6=b6
 case neg=>rw[if_neg (by simpa using c6),sb,decide_eq_false (by simp[c6])]
 by_cases c7:a7=b7
 case neg=>rw[if_pos (by simpa using c6),decide_eq_false c7,sb,decide_eq_false (by simp[c7])]
 rw[if_pos (by simpa using c6),decide_eq_true c7,sb,decide_eq_true (by simp[c0,c1,c2,c3,c4,c5,c6,c7])]
theorem smp_l0' (a b:List Zi) (hl:a.length=b.length) (ha:a.length<1000000000000) (hs:∀ s∈a,s.f1.f6.length<1000000000000∧s.f1.f7.length<1000000000000) :
  ∀ (sa pa sb' pb:List Zi) (i:Int),a=pa++sa→b=pb++sb'→pa.length=pb.length→i=(pa.length:Int)→Z2t.l0 a b i=some (if sa=sb' then .inr () else .inl false):=by
 intro sa
 induction sa with
 | nil =>
  intro pa sb' pb i h1 h2 h3 hi;have e:sb'=[]:=by
   have l1:=congrArg List.length h1;have l2:=congrArg List.length h2;simp only[List.length_append,List.length_nil] at l1 l2;exact List.length_eq_zero_iff.1 (by omega)
  rw[Z2t.l0,if_neg (by rw[h1];simp[hi]),e,if_pos rfl]
 | cons x sa ih =>
  intro pa sb' pb i h1 h2 h3 hi;have l1:=congrArg List.length h1;have l2:=congrArg List.length h2;simp only[List.length_append,List.length_cons] at l1 l2;have hx:=hs x (by rw[h1];simp);cases sb' with
  | nil=>simp only[List.length_nil] at l2;omega
  | cons y sb' =>
   rw[Z2t.l0,if_pos (by simp;omega),Z1s h1 hi,sb,Z1s h2 (by omega),sb,rSame_eq _ _ hx.1 hx.2,sb,Z0b (by omega) (by omega)];have e:((if(x.f0 != y.f0)=true then(some true) else(some (!decide (x.f1=y.f1)))):Option Bool)=some (!decide (x=y)):=by
    obtain⟨a,b⟩:=x;obtain⟨c,d⟩:=y;by_cases h1:a=c<;>by_cases h2:b=d<;>simp[h1,h2]
   rw[e,sb];by_cases c:x=y
   ·subst c
    rw[if_neg (by simp),ih (pa++[x]) sb' (pb++[x]) (i+1) (by simp[h1]) (by simp[h2]) (by simp[h3]) (by simp;omega)];by_cases c2:sa=sb'
    ·rw[if_pos c2,if_pos (by rw[c2])]
    ·rw[if_neg c2,if_neg (by simp[c2])]
   ·rw[if_pos (by simp[c]),if_neg (by simp[c])]
theorem same9_eq (a b:List Zi) (ha:a.length<1000000000000) (hs:∀ s∈a,s.f1.f6.length<1000000000000∧s.f1.f7.length<1000000000000):Z2t.f a b=some (decide (a=b)):=by
 unfold Z2t.f;by_cases hl:a.length=b.length
 ·rw[if_neg (by simp;omega),smp_l0' a b hl ha hs a [] b [] 0 rfl rfl rfl rfl,sb]
  by_cases c:a=b
  ·rw[if_pos c,decide_eq_true c]
  ·rw[if_neg c,decide_eq_false c]
 ·rw[if_pos (by simp;omega),decide_eq_false (fun h=>hl (by rw[h]))]
variable {b:List Int}
structure HOk (h:Z20):Prop where
 fits:Fits h
 pos:h.f6.length≤512
 neg:h.f7.length≤512
theorem HOk.zero:HOk (⟨0,0,0,0,0,0,[],[]⟩:Z20):=⟨⟨by decide,by decide,by decide,by decide,by decide,by decide,by simp,by simp⟩,by simp,by simp⟩
end Go.Proofs.YtpoihfcehejgfaaGreat.PvGS
namespace Go.Proofs.YtpoihfcehejgfaaGreat.PvGS
open Go Go.Pv Go.Pv.GS Go.IntKind
structure SOk (s:Zi):Prop where
 v:Z9o s.f1
 f:Fits s.f1
 t:0≤s.f0∧s.f0≤1099511627776
def Zb7 (t:Int):Bool:=decide (0≤t∧t≤1099511627776)
open Classical in
noncomputable def sok (s:Zi):Bool:=Zb7 s.f0&&decide (Z9o s.f1)
def aft (p:Option Zi) (s:Zi):Bool:=match p with
 | none=>true
 | some q=>decide (q.f0<s.f0)
noncomputable def good (p:Option Zi) (s:Zi):Bool:=sok s&&aft p s
noncomputable def rise:Option Zi→List Zi→Bool
 | _,[]=>true
 | p,s::l=>good p s&&rise (some s) l
def lst:Option Zi→List Zi→Option Zi
 | p,[]=>p
 | _,s::l=>lst (some s) l
theorem lst_app (a b:List Zi):∀ p,lst p (a++b)=lst (lst p a) b:=by
 induction a with
 | nil=>intro p;rfl
 | cons s a ih=>intro p;exact ih _
theorem lst_snoc (a:List Zi) (s:Zi) (p:Option Zi):lst p (a++[s])=some s:=by rw[lst_app];rfl
def flow (b:Bool):Bool ⊕ Unit:=match b with
 | true=>.inr ()
 | false=>.inl false
theorem rtime (t:Int):Z3j.f t=some (Zb7 t):=by
 unfold Z3j.f Zb7;by_cases h:t≥0
 ·rw[if_pos (decide_eq_true h),sb];congr 1;apply Bool.eq_iff_iff.2;simp;omega
 ·rw[if_neg (by simpa using h),sb];congr 1;rw[decide_eq_false (by omega)]
theorem rris_l0 (l:List Zi) (hl:l.length<1000000000000000) (hf:∀ s∈l,Fits s.f1∧s.f1.f6.length<1000000000000000∧s.f1.f7.length<1000000000000000):∀ (suf pre:List Zi) (i:Int),l=pre++suf→i=(pre.length:Int)→Z16.l0 l i=some (flow (rise (lst none pre) suf)):=by
 intro suf
 induction suf with
 | nil=>intro pre i h1 hi;rw[Z16.l0,if_neg (by rw[h1];simp[hi])];rfl
 | cons s suf ih =>
  intro pre i h1 hi;have hlen:l.length=pre.length+(suf.length+1):=by rw[h1];simp
  have hs:=hf s (by rw[h1];simp);have step:((((at? l i)>>=fun b6847=>(Z3j.f b6847.f0)>>=fun t6850=>if(!t6850)=true then(some true) else((Z0p.f b6847.f1)>>=fun t6853=>if(t6853 != (0:Int))=true then(some true) else(if(decide (i>(0:Int)))=true then((at? l (i64.wrap (i-(1:Int))))>>=fun b6857=>some (decide (b6847.f0≤b6857.f0))) else(some false)))):Option (Bool)))=some (!good (lst none pre) s):=by
   rw[Z1s h1 hi,sb,rtime,sb];cases ht:Zb7 s.f0 with
   | false=>rw[if_pos (show(!false)=true from rfl)];simp[good,sok,ht]
   | true =>
    rw[if_neg (by simp)];obtain⟨e,_,e1,e3⟩:=check_same s.f1 hs.1 hs.2.1 hs.2.2;rw[e1,sb];by_cases he:e=0
    case neg =>
     rw[if_pos (by simpa using he)];have:¬ Z9o s.f1:=fun h=>he (e3.2 h);simp[good,sok,this]
    rw[if_neg (by simpa using he)];have hv:=e3.1 he;rcases List.eq_nil_or_concat pre with rfl | ⟨Q,q,rfl⟩
    ·rw[if_neg (by simp[hi])]
     simp[good,sok,ht,hv,lst,aft]
    ·rw[List.concat_eq_append] at *
     have hi3:i=(Q.length:Int)+1:=by rw[hi];simp
     simp only[List.length_append,List.length_singleton] at hlen;rw[if_pos (decide_eq_true (by omega)),Z0b (n:=i-1) (by omega) (by omega)];rw[show at? l (i-1)=some q from Z1s (pre:=Q) (suf:=s::suf) (by rw[h1];simp) (by omega),sb,lst_snoc];simp only[good,sok,ht,hv,aft,Bool.true_and,decide_true];congr 1;by_cases c:q.f0<s.f0
     ·rw[decide_eq_false (by omega),decide_eq_true c];rfl
     ·rw[decide_eq_true (by omega),decide_eq_false c];rfl
  have hst:=step;have hr:rise (lst none pre) (s::suf)=(good (lst none pre) s&&rise (some s) suf):=rfl;rw[hr];cases g:good (lst none pre) s with
  | false =>
   rw[g] at hst;rw[Z16.l0,if_pos (by simp;omega),hst,sb,if_pos (show(!false)=true from rfl)];rfl
  | true =>
   rw[g] at hst;rw[Z16.l0,if_pos (by simp;omega),hst,sb,if_neg (show ¬ (!true)=true by simp),Z0b (n:=i+1) (by omega) (by omega),ih (pre++[s]) (i+1) (by simp[h1]) (by simp;omega),lst_snoc,Bool.true_and]
theorem rris_eq (l:List Zi) (hl:l.length<1000000000000000) (hf:∀ s∈l,Fits s.f1∧s.f1.f6.length<1000000000000000∧s.f1.f7.length<1000000000000000):Z16.f l=some (rise none l):=by
 unfold Z16.f;rw[rris_l0 l hl hf l [] 0 rfl rfl,sb];show(match flow (rise none l) with | .inl rr=>(some rr) | .inr _=>(some true))=some (rise none l);obtain⟨b,hb⟩:∃ b,rise none l=b:=⟨_,rfl⟩
 rw[hb];cases b<;>rfl
def keyB (s:ByteArray):Bool:=match Z17.f s with
 | some (_,e)=>e==0
 | none=>false
theorem key_iff (s:ByteArray) (hs:s.size≤2000000):keyB s=true↔∃ x,chkC x=0∧L s=keyL x:=by
 unfold keyB;obtain⟨x,e,h,h2⟩:=fromB_spec s hs;rw[h];dsimp only;rcases h2 with ⟨rfl,h3,h4⟩ | ⟨rfl,_,h3⟩
 ·simp;exact⟨x,h3,h4⟩
 ·simp;exact h3
theorem rk_l0:∀ (n:Nat) (s:ByteArray) (acc:List ByteArray),s.size≤n→s.size≤2000000→acc.length+s.size≤4000000 →
  (Z1f.l0 s acc=some (.inl false)∧∀ ws:List ByteArray,(∀ w∈ws,w.size<256)→L s≠Z4f ws)∨(∃ ws,Z1f.l0 s acc=some (.inr (acc++ws))∧(∀ w∈ws,w.size<256)∧L s=Z4f ws∧ws.length≤s.size):=by
 intro n
 induction n with
 | zero =>
  intro s acc hn h5 ha;rw[Z1f.l0,if_neg (by rw[decide_eq_true_eq];omega)];have:L s=[]:=List.length_eq_zero_iff.1 (by rw[Z44];omega);exact .inr ⟨[],by simp,by simp,by rw[this];rfl,by simp⟩
 | succ n ih =>
  intro s acc hn h5 ha;by_cases h0:0<s.size
  case neg =>
   rw[Z1f.l0,if_neg (by rw[decide_eq_true_eq];omega)];have:L s=[]:=List.length_eq_zero_iff.1 (by rw[Z44];omega);exact .inr ⟨[],by simp,by simp,by rw[this];rfl,by simp⟩
  obtain⟨c,r,hc,hr,hbt⟩:=L_cons_of h0;have hcl:=c.toNat_lt;have hword:∀ ws:List ByteArray,(∀ w∈ws,w.size<256)→L s=Z4f ws→∃ w ws',ws=w::ws'∧w.size=c.toNat∧r=L w++Z4f ws':=fun ws hw e=>by
   cases ws with
   | nil=>rw[hc] at e;simp[Z4f] at e
   | cons w ws' =>
    rw[hc,Z33,word,List.cons_append,List.cons.injEq] at e;refine⟨w,ws',rfl,?_,e.2⟩;have:=hw w (by simp);rw[e.1,UInt8.toNat_ofNat',Nat.mod_eq_of_lt (by omega)]
  rw[Z1f.l0,if_pos (by simp;omega),chkB (by omega),hbt,Z0b (n:=(c.toNat:Int)) (by omega) (by omega),Z0b (n:=(c.toNat:Int)+1) (by omega) (by omega)];by_cases hle:(c.toNat:Int)+1>(s.size:Int)
  ·rw[if_pos (by simpa using hle)]
   refine .inl ⟨rfl,fun ws hw e => ?_⟩;obtain⟨w,ws',_,h1,h2⟩:=hword ws hw e;have:=congrArg List.length h2;rw[List.length_append,Z44] at this;omega
  ·have e1:Int.toNat ((c.toNat:Int)+1)=1+c.toNat:=by omega
   have l1:L (s.extract (Int.toNat 1) (Int.toNat ((c.toNat:Int)+1)))=r.take c.toNat:=by
    rw[Z8f,e1,hc];simp
   have l2:L (s.extract (Int.toNat ((c.toNat:Int)+1)) (Int.toNat (s.size:Int)))=r.drop c.toNat:=by
    rw[Z8f,e1,hc,Int.toNat_natCast,Nat.add_comm 1 c.toNat,List.drop_succ_cons,List.take_of_length_le (by simp;omega)]
   have s1:(s.extract (Int.toNat 1) (Int.toNat ((c.toNat:Int)+1))).size=c.toNat:=by rw[← Z44,l1,List.length_take];omega
   have s2:(s.extract (Int.toNat ((c.toNat:Int)+1)) (Int.toNat (s.size:Int))).size=s.size-1-c.toNat:=by rw[← Z44,l2,List.length_drop];omega
   rw[if_neg (by simpa using hle),chkB (by omega),chkB (by simp;omega),chkB (by omega)];generalize s.extract (Int.toNat 1) (Int.toNat ((c.toNat:Int)+1))=w0 at *;generalize s.extract (Int.toNat ((c.toNat:Int)+1)) (Int.toNat (s.size:Int))=rest at *;rcases ih rest (acc++[w0]) (by omega) (by omega) (by simp;omega) with ⟨g1,g2⟩ | ⟨ws,g1,g2,g3,g4⟩
   ·refine .inl ⟨g1,fun ws hw e => ?_⟩
    obtain⟨w,ws',rfl,h1,h2⟩:=hword ws hw e;refine g2 ws' (fun z hz=>hw z (by simp[hz])) ?_;rw[l2,h2,← h1,← Z44,List.drop_left]
   ·refine .inr ⟨w0::ws,by rw[g1];simp,fun z hz => ?_,?_,by simp;omega⟩
    ·rcases List.mem_cons.1 hz with rfl | hz
     ·omega
     ·exact g2 z hz
    ·rw[Z33        ,word,← g3,l1,l2,s1,hc]
     have:UInt8.ofNat c.toNat=c:=UInt8.ofNat_toNat;rw[this,List.cons_append,List.take_append_drop]
theorem rk_l1 (ws:List ByteArray) (hl:ws.length≤4000000):∀ (m:Nat) (pre suf:List ByteArray) (o:List Z1c) (i:Int),suf.length=2*m→ws=pre++suf→i=(pre.length:Int)→o.length≤pre.length→Z1f.l1 ws o i=some (o++Z4v suf):=by
 intro m
 induction m with
 | zero =>
  intro pre suf o i hm h1 hi ho;have:suf=[]:=List.length_eq_zero_iff.1 hm;subst this;have hlen:ws.length=pre.length:=by rw[h1];simp
  rw[Z1f.l1,Z0b (n:=i+1) (by omega) (by omega),if_neg (by simp;omega)];simp[Z4v]
 | succ m ih =>
  intro pre suf o i hm h1 hi ho
  match suf,hm with
  | a::b::suf,hm =>
   have hlen:ws.length=pre.length+(suf.length+2):=by rw[h1];simp
   rw[Z1f.l1,Z0b (n:=i+1) (by omega) (by omega),if_pos (by simp;omega),Z1s h1 hi,sb,Z1s (pre:=pre++[a]) (suf:=suf) (x:=b) (by rw[h1];simp) (by simp;omega),sb,chkB (by simp;omega),Z0b (n:=i+2) (by omega) (by omega)];rw[ih (pre++[a,b]) suf _ (i+2) (by simp at hm;omega) (by rw[h1];simp) (by simp;omega) (by simp;omega),Z4v];simp
theorem rkey15 (s:ByteArray) (hs:s.size≤2000000):Z1f.f s=some (keyB s):=by
 have hiff:=key_iff s hs;have flat256:∀ x',chkC x'=0→∀ w∈Z4r x',w.size<256:=fun x' h w hw=>by
  obtain⟨z,hz,hw⟩:=List.mem_flatMap.1 hw;have:=Zab (chkC_zero h).2 z hz;simp at hw;rcases hw with rfl | rfl
  ·have:=this.1;omega
  ·have:=this.2;omega
 have no:(¬ ∃ x,chkC x=0∧L s=keyL x)→keyB s=false:=fun h=>by
  cases e:keyB s with
  | false=>rfl
  | true=>exact absurd (hiff.1 e) h
 unfold Z1f.f;rcases rk_l0 s.size s [] (Nat.le_refl _) hs (by simp;omega) with ⟨g1,g2⟩ | ⟨ws,g1,g2,g3,g4⟩
 ·rw[g1,sb]
  dsimp only;rw[no (fun⟨x',h,e⟩=>g2 (Z4r x') (flat256 x' h) (by rw[e,Z59]))]
 ·rw[g1,sb,List.nil_append]
  dsimp only;have ht:Int.tmod (ws.length:Int) 2=((ws.length % 2:Nat):Int):=by rw[Int.tmod_eq_emod_of_nonneg (by omega)];omega
  have huniq:∀ x',chkC x'=0→L s=keyL x'→ws=Z4r x':=fun x' h e=>Z8h g2 (flat256 x' h) (by rw[← g3,e,Z59])
  have heven:∀ x':List Z1c,(Z4r x').length % 2=0:=fun x'=>by
   induction x' with
   | nil=>rfl
   | cons z x' ih =>
    have:Z4r (z::x')=z.f0::z.f1::Z4r x':=by simp[Z4r]
    rw[this];simp;omega
  rw[ht];by_cases hodd:ws.length % 2=1
  ·rw[if_pos (by simp;omega),no (fun⟨x',h,e⟩=>by
    have:=huniq x' h e;have h2:=heven x';rw[← this] at h2;omega)]
  ·rw[if_neg (by simp;omega),rk_l1 ws (by omega) (ws.length / 2) [] ws [] 0 (by omega) rfl rfl (by simp),sb,List.nil_append,rcheck,sb]
   by_cases hc:chkC (Z4v ws)=0
   ·rw[hc,hiff.2 ⟨Z4v ws,hc,by rw[g3,Z59,Z8y ws (by omega)]⟩];rfl
   ·rw[no (fun⟨x',h,e⟩=>by
     have:=huniq x' h e;rw[this,Z8t] at hc;exact hc h)]
    congr 1;simpa using hc
structure RowB (r:Z2):Prop where
 k:r.f0.size≤2000000
 n:r.f1.length≤100000000
 f:∀ s∈r.f1,Fits s.f1∧s.f1.f6.length<1000000000000000∧s.f1.f7.length<1000000000000000
theorem rise_up:∀ (l:List Zi) (p:Option Zi),rise p l=true→l.Pairwise (fun a b=>a.f0<b.f0)∧∀ q,p=some q→∀ x∈l,q.f0<x.f0
 | [],p,_=>⟨List.Pairwise.nil,by simp⟩
 | s::l,p,h=>by
  simp only[rise,Bool.and_eq_true,good] at h;obtain⟨⟨h1,h2⟩,h3⟩:=h;obtain⟨g1,g2⟩:=rise_up l (some s) h3;refine⟨List.pairwise_cons.2 ⟨g2 s rfl,g1⟩,fun q hq x hx => ?_⟩;subst hq;have h4:q.f0<s.f0:=by simpa[aft] using h2
  rcases List.mem_cons.1 hx with rfl | hx
  ·exact h4
  ·have:=g2 s rfl x hx;omega
theorem rise_ok:∀ (l:List Zi) (p:Option Zi),rise p l=true→∀ s∈l,sok s=true
 | [],_,_,_,h=>by simp at h
 | s::l,p,h,x,hx=>by
  simp only[rise,Bool.and_eq_true,good] at h;rcases List.mem_cons.1 hx with rfl | hx
  ·exact h.1.1
  ·exact rise_ok l _ h.2 x hx
def behK (p:Option ByteArray) (k:ByteArray):Bool:=match p with
 | none=>true
 | some q=>bl q k
noncomputable def rowC (lo hi:Int) (p:Option ByteArray) (r:Z2):Int :=
 if(keyB r.f0&&behK p r.f0)=true then(if(!r.f1.isEmpty&&rise none r.f1&&r.f1.all fun s=>decide (lo≤s.f0∧s.f0<hi))=true then 0 else 22) else 26
noncomputable def rowsC (lo hi:Int):Option ByteArray→List Z2→Int
 | _,[]=>0
 | p,r::l=>if rowC lo hi p r=0 then rowsC lo hi (some r.f0) l else rowC lo hi p r
def out16 (e:Int):Int ⊕ Unit:=if e=0 then .inr () else .inl e
def Z82 (pre:List Z2):Option ByteArray:=pre.getLast?.map (·.f0)
theorem Z6x (pre:List Z2) (r:Z2):Z82 (pre++[r])=some r.f0:=by simp[Z82]
theorem le_not_lt16 (a b:ByteArray):(Op.bytesLess a.toList b.toList||a.toList==b.toList) = !bl b a:=by
 rw[eqB];by_cases h:a=b
 ·subst h;simp[Z91]
 ·cases h1:bl a b with
  | true =>
   have h2:bl b a=false:=bl_asymm h1;simp[bl] at h1;simp[h1,h2]
  | false =>
   have h2:bl b a=true:=by
    cases h3:bl b a with
    | true=>rfl
    | false=>exact absurd (bl_tri' h1 h3) h
   simp[bl] at h1;simp[h1,h2,h]
theorem keyStep {l pre suf:List Z2} {r:Z2} {i:Int} (h1:l=pre++r::suf) (hi:i=(pre.length:Int)) (hl:l.length<1000000000) :
  ((if(decide (i>(0:Int)))=true then((at? l (i64.wrap (i-(1:Int))))>>=fun b2389=>some (!Op.bytesLess b2389.f0.toList r.f0.toList)) else(some false)):Option Bool)=some (!behK (Z82 pre) r.f0):=by
 rcases List.eq_nil_or_concat pre with rfl | ⟨Q,q,rfl⟩
 ·rw[if_neg (by simp[hi])];rfl
 ·rw[List.concat_eq_append] at *
  have hi3:i=(Q.length:Int)+1:=by rw[hi];simp
  have hlen:l.length=Q.length+1+(suf.length+1):=by rw[h1];simp;omega
  rw[if_pos (decide_eq_true (by omega)),Z0b (n:=i-1) (by omega) (by omega),Z6x];rw[show at? l (i-1)=some q from Z1s (pre:=Q) (suf:=r::suf) (by rw[h1];simp) (by omega),sb];rfl
theorem keyStep' {l pre suf:List Z2} {r:Z2} {i:Int} (h1:l=pre++r::suf) (hi:i=(pre.length:Int)) (hl:l.length<1000000000) :
  ((if(decide (i>(0:Int)))=true then((at? l (i64.wrap (i-(1:Int))))>>=fun b2956=>some (Op.bytesLess r.f0.toList b2956.f0.toList||r.f0.toList==b2956.f0.toList)) else(some false)):Option Bool)=some (!behK (Z82 pre) r.f0):=by
 rw[← keyStep h1 hi hl];congr 1;congr 1;funext x;rw[le_not_lt16]
noncomputable def blkC (b:Z5):Int:=if Z6o b.f0 then(if b.f1.length=0∨64<b.f1.length then 9 else rowsC b.f0.f0 b.f0.f1 none b.f1) else 4
theorem rwidth_l0 (k:Int):∀ (n:Nat) (x i:Int),i+n=4→0≤i→0≤x→x≤64*4 ^ i.toNat→Z1r.l0 k x i=some (x*4 ^ (min k 4-i).toNat):=by
 intro n
 induction n with
 | zero =>
  intro x i h1 h0 hx hx2;obtain rfl:i=4:=by omega
  rw[Z1r.l0];have:((if(decide ((4:Int)<k))=true then(some (decide ((4:Int)<(4:Int)))) else(some false)):Option Bool)=some false:=by split<;>rfl
  rw[this,sb,if_neg (by simp),show(min k 4-4).toNat=0 by omega];simp
 | succ n ih =>
  intro x i h1 h0 hx hx2;have hp:(4:Int) ^ i.toNat≤64:=by
   have:i.toNat≤3:=by omega
   obtain h | h | h | h:i.toNat=0∨i.toNat=1∨i.toNat=2∨i.toNat=3:=by omega
   all_goals rw[h];decide
  rw[Z1r.l0];by_cases c:i<k
  ·rw[if_pos (decide_eq_true c),sb,if_pos (by simp;omega),Z0b    (by omega) (by omega),Z0b    (by omega) (by omega)]
   rw[ih (x*4) (i+1) (by omega) (by omega) (by omega) (by rw[show(i+1).toNat=i.toNat+1 by omega,Int.pow_succ];omega),show(min k 4-i).toNat=(min k 4-(i+1)).toNat+1 by omega,Int.pow_succ,Int.mul_assoc,Int.mul_comm 4]
  ·rw[if_neg (by simpa using c),sb,if_neg (by simp),show(min k 4-i).toNat=0 by omega];simp
theorem rwidth (k:Int):Z1r.f k=some (64*4 ^ (min k 4).toNat):=by
 unfold Z1r.f;rw[rwidth_l0 k 4 64 0 (by omega) (by omega) (by omega) (by decide),sb,Int.sub_zero]
theorem rwidth_wide {k:Int} (h:0≤k) (h4:k≤4):Z1r.f k=some (wide k):=by
 rw[rwidth];obtain rfl | rfl | rfl | rfl | rfl:k=0∨k=1∨k=2∨k=3∨k=4:=by omega
 all_goals decide
def toBlk (b:Z1y):Z5:=⟨⟨b.f0,b.f1,b.f2⟩,b.f3⟩
theorem rright16 (b:Z1y):((if(decide (b.f2<(0:Int)))=true then(some true) else(if(decide (b.f2>(4:Int)))=true then(some true) else(if(decide (b.f0<(0:Int)))=true then(some true) else(if(decide (b.f0>(1099511627776:Int)))=true then(some true) else((Z1r.f b.f2)>>=fun t2461=>(chk (t2461≠0))>>=fun _=>if((Int.tmod b.f0 t2461) != (0:Int))=true then(some true) else((Z1r.f b.f2)>>=fun t2465=>some (b.f1 != (i64.wrap (b.f0+t2465))))))))):Option (Bool))=some (!decide (Z6o ⟨b.f0,b.f1,b.f2⟩)):=by
 obtain⟨lo,hi,k,rows⟩:=b;dsimp only;by_cases h1:k<0
 ·rw[if_pos (decide_eq_true h1),decide_eq_false (fun h=>by have:=h.1;dsimp only at this;omega)];rfl
 rw[if_neg (by simpa using h1)];by_cases h2:k>4
 ·rw[if_pos (decide_eq_true h2),decide_eq_false (fun h=>by have:=h.2.1;dsimp only at this;omega)];rfl
 rw[if_neg (by simpa using h2)];by_cases h3:lo<0
 ·rw[if_pos (decide_eq_true h3),decide_eq_false (fun h=>by have:=h.2.2.1;dsimp only at this;omega)];rfl
 rw[if_neg (by simpa using h3)];by_cases h4:lo>1099511627776
 ·rw[if_pos (decide_eq_true h4),decide_eq_false (fun h=>by have:=h.2.2.2.1;dsimp only at this;omega)];rfl
 have hw:=Z5w k;rw[if_neg (by simpa using h4),rwidth_wide (by omega) (by omega),sb,chkB (by omega),Int.tmod_eq_emod_of_nonneg (by omega)];by_cases h5:lo % wide k=0
 ·rw[if_neg (by simp[h5]),sb,Z0b    (by omega) (by omega)]
  congr 1;by_cases h6:hi=lo+wide k
  ·rw[show decide (Z6o ⟨lo,hi,k⟩)=true from decide_eq_true ⟨by dsimp only;omega,by dsimp only;omega,by dsimp only;omega,by dsimp only;omega,h5,h6⟩];simp[h6]
  ·rw[decide_eq_false (fun h:Z6o ⟨lo,hi,k⟩=>h6 h.2.2.2.2.2)];simp[h6]
 ·rw[if_pos (by simpa using h5),decide_eq_false (fun h:Z6o ⟨lo,hi,k⟩=>h5 h.2.2.2.2.1)];rfl
theorem rchk16_l1 (b:Z1y) (r:Z2) (j:Int) (hl:r.f1.length<1000000000):∀ (suf pre:List Zi) (i:Int),r.f1=pre++suf→i=(pre.length:Int) →
  Z1d.l1 b r j i=some (if(suf.all fun s=>decide (b.f0≤s.f0∧s.f0<b.f1))=true then .inr () else .inl 22):=by
 intro suf
 induction suf with
 | nil=>intro pre i h1 hi;rw[Z1d.l1,if_neg (by rw[h1];simp[hi])];rfl
 | cons s suf ih =>
  intro pre i h1 hi;have hlen:r.f1.length=pre.length+(suf.length+1):=by rw[h1];simp
  rw[Z1d.l1,if_pos (by simp;omega),Z1s h1 hi,sb];have:((if(decide (s.f0<b.f0))=true then(some true) else(some (decide (s.f0≥b.f1)))):Option Bool)=some (!decide (b.f0≤s.f0∧s.f0<b.f1)):=by
   by_cases c1:s.f0<b.f0
   ·rw[if_pos (decide_eq_true c1),decide_eq_false (by omega)];rfl
   ·rw[if_neg (by simpa using c1)]
    by_cases c2:s.f0≥b.f1
    ·rw[decide_eq_true c2,decide_eq_false (by omega)];rfl
    ·rw[decide_eq_false c2,decide_eq_true (by omega)];rfl
  rw[this,sb,List.all_cons];cases h:decide (b.f0≤s.f0∧s.f0<b.f1) with
  | false=>rw[if_pos (show(!false)=true from rfl)];rfl
  | true=>rw[if_neg (by simp),Z0b (by omega) (by omega),ih (pre++[s]) (i+1) (by simp[h1]) (by simp;omega),Bool.true_and]
theorem rchk16_l0 (b:Z1y) (hl:b.f3.length<1000000000) (hb:∀ r∈b.f3,RowB r):∀ (suf pre:List Z2) (i:Int),b.f3=pre++suf→i=(pre.length:Int)→Z1d.l0 b i=some (out16 (rowsC b.f0 b.f1 (Z82 pre) suf)):=by
 intro suf
 induction suf with
 | nil=>intro pre i h1 hi;rw[Z1d.l0,if_neg (by rw[h1];simp[hi])];rfl
 | cons r suf ih =>
  intro pre i h1 hi;have hlen:b.f3.length=pre.length+(suf.length+1):=by rw[h1];simp
  have hr:=hb r (by rw[h1];simp);rw[Z1d.l0,if_pos (by simp;omega),Z1s h1 hi,sb,rkey15 r.f0 hr.k,sb,keyStep' h1 hi hl];have hk:((if(!keyB r.f0)=true then(some true) else some (!behK (Z82 pre) r.f0)):Option Bool)=some (!(keyB r.f0&&behK (Z82 pre) r.f0)):=by
   cases keyB r.f0<;>rfl
  rw[hk,sb,rowsC];unfold rowC;cases hk2:(keyB r.f0&&behK (Z82 pre) r.f0) with
  | false=>rw[if_pos (by rfl),if_neg (by simp),if_neg (by decide)];rfl
  | true =>
   rw[if_neg (by simp),if_pos rfl,rris_eq r.f1 (by have:=hr.n;omega) hr.f];have hs:((if((r.f1.length:Int)==(0:Int))=true then(some true) else((some (rise none r.f1))>>=fun t2965=>some (!t2965))):Option Bool)=some (!(!r.f1.isEmpty&&rise none r.f1)):=by
    match r.f1 with
    | []=>rfl
    | a::m=>rw[if_neg (by simp;omega),sb];rfl
   rw[hs,sb];cases hs2:(!r.f1.isEmpty&&rise none r.f1) with
   | false=>rw[if_pos (by rfl),Bool.false_and,if_neg (by simp),if_neg (by decide)];rfl
   | true =>
    rw[if_neg (by simp),rchk16_l1 b r i (by have:=hr.n;omega) r.f1 [] 0 rfl rfl,sb,Bool.true_and];cases hs3:(r.f1.all fun s=>decide (b.f0≤s.f0∧s.f0<b.f1)) with
    | false=>rw[if_neg (by simp),if_neg (by simp),if_neg (by decide)];rfl
    | true=>rw[if_pos rfl,if_pos rfl,if_pos rfl];dsimp only;rw[Z0b (by omega) (by omega),ih (pre++[r]) (i+1) (by simp[h1]) (by simp;omega),Z6x]
theorem rcheck16 (b:Z1y) (hl:b.f3.length<1000000000) (hb:∀ r∈b.f3,RowB r):Z1d.f b=some (blkC (toBlk b)):=by
 unfold Z1d.f blkC;rw[rright16,sb];show _=some (if Z6o ⟨b.f0,b.f1,b.f2⟩ then(if b.f3.length=0∨64<b.f3.length then 9 else rowsC b.f0 b.f1 none b.f3) else 4);by_cases h:Z6o ⟨b.f0,b.f1,b.f2⟩
 ·rw[decide_eq_true h,if_neg (by simp),if_pos h]
  have h2:((if(decide ((b.f3.length:Int)<(1:Int)))=true then(some true) else(some (decide ((b.f3.length:Int)>(64:Int))))):Option (Bool))=some (decide (b.f3.length=0∨64<b.f3.length)):=by
   by_cases c:b.f3.length=0
   ·rw[if_pos (by simp[c]),decide_eq_true (.inl c)]
   ·rw[if_neg (by simp;omega)]
    congr 1;by_cases c2:64<b.f3.length
    ·rw[decide_eq_true (by omega),decide_eq_true (.inr c2)]
    ·rw[decide_eq_false (by omega),decide_eq_false (by omega)]
  rw[h2,sb];by_cases c:b.f3.length=0∨64<b.f3.length
  ·rw[if_pos (decide_eq_true c),if_pos c]
  ·rw[if_neg (by simpa using c),if_neg c,rchk16_l0 b hl hb b.f3 [] 0 rfl rfl,sb,show Z82   []=none from rfl]
   unfold out16;by_cases e:rowsC b.f0 b.f1 none b.f3=0
   ·rw[if_pos e,e]
   ·rw[if_neg e]
 ·rw[decide_eq_false h,if_pos (show(!false)=true from rfl),if_neg h]
structure RowOK (lo hi:Int) (r:Z2):Prop where
 k:keyB r.f0=true
 ne:r.f1≠[]
 up:rise none r.f1=true
 at_:∀ s∈r.f1,lo≤s.f0∧s.f0<hi
structure BlkOK (b:Z5):Prop where
 m:Z6o b.f0
 ne:b.f1≠[]
 len:b.f1.length≤64
 rows:∀ r∈b.f1,RowOK b.f0.f0 b.f0.f1 r
 up:b.f1.Pairwise fun r q=>bl r.f0 q.f0=true
theorem rowsC_ok (lo hi:Int):∀ (l:List Z2) (p:Option ByteArray),rowsC lo hi p l=0↔((∀ r∈l,RowOK lo hi r)∧l.Pairwise (fun r q=>bl r.f0 q.f0=true)∧∀ k,p=some k→∀ r∈l,bl k r.f0=true)
 | [],p=>by simp[rowsC]
 | r::l,p=>by
  have key:rowC lo hi p r=0↔(RowOK lo hi r∧∀ k,p=some k→bl k r.f0=true):=by
   unfold rowC;cases h1:keyB r.f0 with
   | false=>simp;intro h;have:=h.k;rw[h1] at this;simp at this
   | true =>
    have hp:behK p r.f0=true↔∀ k,p=some k→bl k r.f0=true:=by
     cases p with
     | none=>simp[behK]
     | some q=>simp[behK]
    rw[Bool.true_and];by_cases h2:behK p r.f0=true
    ·rw[if_pos h2]
     by_cases h3:(!r.f1.isEmpty&&rise none r.f1&&r.f1.all fun s=>decide (lo≤s.f0∧s.f0<hi))=true
     ·rw[if_pos h3]
      simp only[Bool.and_eq_true,Bool.not_eq_true',List.isEmpty_eq_false_iff,List.all_eq_true,decide_eq_true_eq] at h3;exact⟨fun _=>⟨⟨h1,h3.1.1,h3.1.2,h3.2⟩,hp.1 h2⟩,fun _=>rfl⟩
     ·rw[if_neg h3]
      refine⟨fun h=>by simp at h,fun h=>absurd ?_ h3⟩;simp only[Bool.and_eq_true,Bool.not_eq_true',List.isEmpty_eq_false_iff,List.all_eq_true,decide_eq_true_eq];exact⟨⟨h.1.ne,h.1.up⟩,h.1.at_⟩
    ·rw[if_neg h2]
     exact⟨fun h=>by simp at h,fun h=>absurd (hp.2 h.2) h2⟩
  rw[rowsC];by_cases h:rowC lo hi p r=0
  ·rw[if_pos h,rowsC_ok lo hi l (some r.f0)]
   obtain⟨k1,k2⟩:=key.1 h;constructor
   ·rintro⟨g1,g2,g3⟩
    refine⟨fun x hx => ?_,List.pairwise_cons.2 ⟨fun x hx=>g3 _ rfl x hx,g2⟩,fun k hk x hx => ?_⟩
    ·rcases List.mem_cons.1 hx with rfl | hx
     ·exact k1
     ·exact g1 x hx
    ·rcases List.mem_cons.1 hx with rfl | hx
     ·exact k2 k hk
     ·exact Z74 _ _ _ (k2 k hk) (g3 _ rfl x hx)
   ·rintro⟨g1,g2,g3⟩
    obtain⟨p1,p2⟩:=List.pairwise_cons.1 g2;exact⟨fun x hx=>g1 x (by simp[hx]),p2,fun k hk x hx=>by cases hk;exact p1 x hx⟩
  ·rw[if_neg h]
   refine⟨fun g=>absurd g h,fun⟨g1,g2,g3⟩=>absurd (key.2 ⟨g1 r (by simp),fun k hk=>g3 k hk r (by simp)⟩) h⟩
theorem blkC_ok (b:Z5):blkC b=0↔BlkOK b:=by
 unfold blkC;by_cases h:Z6o b.f0
 ·rw[if_pos h]
  by_cases c:b.f1.length=0∨64<b.f1.length
  ·rw[if_pos c]
   refine⟨fun h=>by simp at h,fun k => ?_⟩;have h1:=k.ne;have h2:=k.len;have:b.f1.length≠0:=fun h=>h1 (List.length_eq_zero_iff.1 h);omega
  ·rw[if_neg c,rowsC_ok]
   constructor
   ·rintro⟨g1,g2,_⟩
    exact⟨h,fun e=>by rw[e] at c;simp at c,by omega,g1,g2⟩
   ·intro k;exact⟨k.rows,k.up,by simp⟩
 ·rw[if_neg h];exact⟨fun h=>by simp at h,fun k=>absurd k.m h⟩
def smpN (l:List Zi):Nat:=(l.map fun s=>s.f1.f6.length+s.f1.f7.length+1).sum
def rowN (r:Z2):Nat:=r.f0.size+1+smpN r.f1
def Z48 (l:List Z2):Nat:=(l.map rowN).sum
theorem smpN_le:∀ (l:List Zi),(∀ s∈l,s.f1.f6.length≤1048576∧s.f1.f7.length≤1048576)→smpN l≤2097153*l.length
 | [],_=>by simp[smpN]
 | s::l,h=>by
  have h1:=h s (by simp);have h2:=smpN_le l (fun x hx=>h x (by simp[hx]));simp only[smpN,List.map_cons,List.sum_cons,List.length_cons] at *;omega
theorem len_smpN:∀ (l:List Zi),l.length≤smpN l
 | []=>by simp[smpN]
 | s::l=>by
  have h2:=len_smpN l;simp only[smpN,List.map_cons,List.sum_cons,List.length_cons] at *;omega
theorem rowN_le {r:Z2} (h:Z3b r):rowN r≤2199024304129+1048577:=by
 have h1:=smpN_le r.f1 (fun s hs=>⟨((h.r1.2 s hs).r1.r6).1,((h.r1.2 s hs).r1.r7).1⟩);have h2:=h.r1.1;have h3:=h.r0;have:2097153*r.f1.length≤2097153*1048576:=Nat.mul_le_mul_left _ h2;unfold rowN;omega
theorem lightN_le:∀ (l:List Z2),(∀ r∈l,Z3b r)→Z48 l≤2200000000000*l.length
 | [],_=>by simp[Z48]
 | r::l,h=>by
  have h1:=rowN_le (h r (by simp));have h2:=lightN_le l (fun x hx=>h x (by simp[hx]));simp only[Z48,List.map_cons,List.sum_cons,List.length_cons] at *;omega
theorem li_l1 (l:List Z2) (r:Z2) (j:Int) (hl:r.f1.length≤1048576) (hb:∀ s∈r.f1,s.f1.f6.length≤1048576∧s.f1.f7.length≤1048576):∀ (suf pre:List Zi) (x:Nat) (i:Int),r.f1=pre++suf→i=(pre.length:Int)→x+smpN suf<4000000000000000000 →
  Z1i.l1 l r j (x:Int) i=some ((x+smpN suf:Nat):Int):=by
 intro suf
 induction suf with
 | nil=>intro pre x i h1 hi _;rw[Z1i.l1,if_neg (by rw[h1];simp[hi])];simp[smpN]
 | cons s suf ih =>
  intro pre x i h1 hi hx;have hlen:r.f1.length=pre.length+(suf.length+1):=by rw[h1];simp
  have hs:=hb s (by rw[h1];simp);have e:smpN (s::suf)=s.f1.f6.length+s.f1.f7.length+1+smpN suf:=by simp[smpN]
  rw[e] at hx ⊢;rw[Z1i.l1,if_pos (by simp;omega),Z1s h1 hi,sb,Z0b (n:=(s.f1.f6.length:Int)+(s.f1.f7.length:Int)) (by omega) (by omega),Z0b (n:=(s.f1.f6.length:Int)+(s.f1.f7.length:Int)+1) (by omega) (by omega),Z0b (n:=(x:Int)+_) (by omega) (by omega),Z0b (n:=i+1) (by omega) (by omega)];have:=ih (pre++[s]) (x+(s.f1.f6.length+s.f1.f7.length+1)) (i+1) (by simp[h1]) (by simp;omega) (by omega);rw[show(x:Int)+((s.f1.f6.length:Int)+(s.f1.f7.length:Int)+1)=((x+(s.f1.f6.length+s.f1.f7.length+1):Nat):Int) by omega,this];congr 2;omega
theorem li_l0 (l:List Z2) (hl:l.length≤1048576) (hR:∀ r∈l,Z3b r):∀ (suf pre:List Z2) (x:Nat) (i:Int),l=pre++suf→i=(pre.length:Int)→x+Z48 suf<4000000000000000000→Z1i.l0 l (x:Int) i=some ((x+Z48 suf:Nat):Int):=by
 intro suf
 induction suf with
 | nil=>intro pre x i h1 hi _;rw[Z1i.l0,if_neg (by rw[h1];simp[hi])];simp[Z48]
 | cons r suf ih =>
  intro pre x i h1 hi hx;have hlen:l.length=pre.length+(suf.length+1):=by rw[h1];simp
  have hr:=hR r (by rw[h1];simp);have hk:=hr.r0;have e:Z48 (r::suf)=rowN r+Z48 suf:=by simp[Z48]
  have e2:rowN r=r.f0.size+1+smpN r.f1:=rfl;rw[e,e2] at hx;rw[e,e2,Z1i.l0,if_pos (by simp;omega),Z1s h1 hi,sb,Z0b (n:=(r.f0.size:Int)+1) (by omega) (by omega),Z0b (n:=(x:Int)+_) (by omega) (by omega)];have:=li_l1 l r i hr.r1.1 (fun s hs=>⟨((hr.r1.2 s hs).r1.r6).1,((hr.r1.2 s hs).r1.r7).1⟩) r.f1 [] (x+(r.f0.size+1)) 0 rfl rfl (by omega);rw[show(x:Int)+((r.f0.size:Int)+1)=((x+(r.f0.size+1):Nat):Int) by omega,this,sb,Z0b (n:=i+1) (by omega) (by omega)];rw[ih (pre++[r]) (x+(r.f0.size+1)+smpN r.f1) (i+1) (by simp[h1]) (by simp;omega) (by omega)];congr 2;omega
theorem light16 (l:List Z2) (hl:l.length≤1048576) (hR:∀ r∈l,Z3b r):Z1i.f l=some (decide (Z48 l≤1200)):=by
 have h:=lightN_le l hR;have h2:2200000000000*l.length≤2200000000000*1048576:=Nat.mul_le_mul_left _ hl;unfold Z1i.f;have e:=li_l0 l hl hR l [] 0 0 rfl rfl (by omega);rw[show((0:Nat):Int)=(0:Int) from rfl] at e;rw[e,sb,Nat.zero_add];congr 1;by_cases c:Z48 l≤1200
 ·rw[decide_eq_true c,decide_eq_true (by omega)]
 ·rw[decide_eq_false c,decide_eq_false (by omega)]
theorem Z7z:∀ (l:List Z2),l.length≤Z48 l∧(l.map fun r=>r.f1.length).sum≤Z48 l
 | []=>by simp[Z48]
 | r::l=>by
  have h:=Z7z l;have h2:=len_smpN r.f1;simp only[Z48,rowN,List.map_cons,List.sum_cons,List.length_cons] at *;omega
theorem rowB_of {l:List Z2} (hR:∀ r∈l,Z3b r) (hl:Z48 l≤1200):∀ r∈l,RowB r:=fun r hr=>by
 have h:=Z7z l;have q:=hR r hr;exact⟨by have:=q.r0;omega,by have:=q.r1.1;omega,fun s hs=>⟨fits_of (q.r1.2 s hs).r1,by have:=(q.r1.2 s hs).r1.r6.1;omega,by have:=(q.r1.2 s hs).r1.r7.1;omega⟩⟩
def ofBlk (b:Z5):Z1y:=⟨b.f0.f0,b.f0.f1,b.f0.f2,b.f1⟩
theorem fr_l0_16 (b:Z5) (hl:b.f1.length≤100000000):∀ (suf pre:List Z2) (i:Int),b.f1=pre++suf→i=(pre.length:Int)→Z29.l0 b pre i=some b.f1:=by
 intro suf
 induction suf with
 | nil=>intro pre i h1 hi;rw[Z29.l0,if_neg (by rw[h1];simp[hi]),h1];simp
 | cons r suf ih =>
  intro pre i h1 hi;have hlen:b.f1.length=pre.length+(suf.length+1):=by rw[h1];simp
  rw[Z29.l0,if_pos (by simp;omega),Z1s h1 hi,sb,chkB (by simp;omega),Z0b (by omega) (by omega)];exact ih (pre++[r]) (i+1) (by simp[h1]) (by simp;omega)
theorem fr16 (b:Z5) (hl:b.f1.length≤100000000):Z29.f b=some (ofBlk b):=by
 unfold Z29.f;rw[fr_l0_16 b hl b.f1 [] 0 rfl rfl,sb];rfl
theorem same16_l0 (a:List Z2) (hl:a.length≤100000000) (hs:∀ r∈a,r.f1.length<1000000000000∧∀ s∈r.f1,s.f1.f6.length<1000000000000∧s.f1.f7.length<1000000000000):∀ (suf pre:List Z2) (i:Int),a=pre++suf→i=(pre.length:Int)→Z2s.l0 a a i=some (.inr ()):=by
 intro suf
 induction suf with
 | nil=>intro pre i h1 hi;rw[Z2s.l0,if_neg (by rw[h1];simp[hi])]
 | cons r suf ih =>
  intro pre i h1 hi;have hlen:a.length=pre.length+(suf.length+1):=by rw[h1];simp
  have hr:=hs r (by rw[h1];simp);rw[Z2s.l0,if_pos (by simp;omega),Z1s h1 hi,sb,sb,if_neg (by simp),same9_eq r.f1 r.f1 hr.1 hr.2,sb,decide_eq_true rfl,sb,if_neg (by simp),Z0b (by omega) (by omega)];exact ih (pre++[r]) (i+1) (by simp[h1]) (by simp;omega)
theorem same16 (a:List Z2) (hl:a.length≤100000000) (hs:∀ r∈a,r.f1.length<1000000000000∧∀ s∈r.f1,s.f1.f6.length<1000000000000∧s.f1.f7.length<1000000000000):Z2s.f a a=some true:=by
 unfold Z2s.f;rw[if_neg (by simp),same16_l0 a hl hs a [] 0 rfl rfl,sb]
end Go.Proofs.YtpoihfcehejgfaaGreat.PvGS
