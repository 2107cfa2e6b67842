import Derived.Test.YtpoihfcehejgfaaPxBlockJoins15
set_option linter.unusedVariables false
set_option linter.unusedSimpArgs false
set_option maxRecDepth 100000
namespace Go.Proofs.Ytpoihfcehejgfaa.PvGP
open Go Go.Pv Go.Pv.GS Go.IntKind
def blen:Nat→Nat
 | 0=>0
 | n+1=>blen ((n+1) / 2)+1
decreasing_by omega
def cls (k:Nat):Nat:=if k≤0 then 0 else if k≤3 then 1 else if k≤7 then 2 else if k≤12 then 3 else if k≤20 then 4 else if k≤32 then 5 else 6
def wid:Nat→Nat
 | 0=>0 | 1=>3 | 2=>7 | 3=>12 | 4=>20 | 5=>32 | _=>64
def cnt2 (n:Nat):List Bool:=List.replicate (cls (blen n)) true++((if cls (blen n)<6 then [false] else [])++nb n (wid (cls (blen n))))
structure Src (b:List Int):Prop where
 byte:∀ x∈b,Byte x
 len:b.length<100000000000
variable {b:List Int}
end Go.Proofs.Ytpoihfcehejgfaa.PvGP
namespace Go.Proofs.Ytpoihfcehejgfaa.PvGP
open Go Go.Pv Go.Pv.GS Go.IntKind
theorem Z6n {n:Nat} (h:n<18446744073709551616):(BitVec.ofInt 64 (n:Int)).toNat=n:=by
 rw[BitVec.ofInt_natCast,BitVec.toNat_ofNat];exact Nat.mod_eq_of_lt h
variable {b:List Int}
end Go.Proofs.Ytpoihfcehejgfaa.PvGP
namespace Go.Proofs.Ytpoihfcehejgfaa.PvGP
open Go Go.Pv Go.Pv.GS Go.IntKind
def cnt (l:List Z0f):Int:=(l.map (·.f1)).sum
theorem Z7q {l:List Z0f} (h:Nn l):0≤cnt l:=Z4d (fun x hx=>by
 obtain⟨b,hb,rfl⟩:=List.mem_map.1 hx;exact h b hb)
theorem cnt_cons (b:Z0f) (l:List Z0f):cnt (b::l)=b.f1+cnt l:=by simp[cnt]
theorem total_l1 (a0:List (List Z0f)) (x769:Int) (l:List Z0f) (hl:l.length<1000000000):∀ (suf pre:List Z0f) (acc i:Int),l=pre++suf→i=(pre.length:Int)→U64 acc→(∀ b∈suf,U64 b.f1) →
  Z0u.l1 a0 l x769 acc i=some (if acc+cnt suf<18446744073709551616 then .inr (acc+cnt suf) else .inl (0,5)):=by
 intro suf
 induction suf with
 | nil =>
  intro pre acc i h1 hi ha hs;subst h1;rw[Z0u.l1,if_neg (by simp[hi])];simp[cnt,ha.2]
 | cons x suf ih =>
  intro pre acc i h1 hi ha hs;have hx:=hs x (by simp);have hs':∀ y∈suf,U64 y.f1:=fun y hy=>hs y (by simp[hy])
  have hnn:0≤cnt suf:=Z7q (fun y hy=>(hs' y hy).1);have hlen:(l.length:Int)=pre.length+(suf.length+1):=by rw[h1];simp
  rw[Z0u.l1,if_pos (by simp;omega),Z1i h1 hi,sb,num_add2 ha hx,sb,Z07 (by omega) (by omega),cnt_cons];by_cases hov:acc+x.f1<18446744073709551616
  ·rw[if_pos hov,if_neg (by simp),ih (pre++[x]) (acc+x.f1) (i+1) (by simp[h1]) (by simp;omega) ⟨by omega,hov⟩ hs',Int.add_assoc]
  ·rw[if_neg hov,if_pos (by simp),if_neg (by omega)]
theorem total_l0 (a0:List (List Z0f)) (ha0:a0.length<1000000000):∀ (suf pre:List (List Z0f)) (acc i:Int),a0=pre++suf→i=(pre.length:Int)→U64 acc→(∀ l∈suf,l.length<1000000000∧∀ b∈l,U64 b.f1) →
  Z0u.l0 a0 acc i=some (if acc+(suf.map cnt).sum<18446744073709551616 then .inr (acc+(suf.map cnt).sum) else .inl (0,5)):=by
 intro suf
 induction suf with
 | nil =>
  intro pre acc i h1 hi ha hs;subst h1;rw[Z0u.l0,if_neg (by simp[hi])];simp[ha.2]
 | cons x suf ih =>
  intro pre acc i h1 hi ha hs;have hx:=hs x (by simp);have hs':∀ l∈suf,l.length<1000000000∧∀ b∈l,U64 b.f1:=fun y hy=>hs y (by simp[hy])
  have hx0:0≤cnt x:=Z7q (fun y hy=>(hx.2 y hy).1);have hnn:0≤(suf.map cnt).sum:=Z4d (fun y hy=>by
   obtain⟨l,hl,rfl⟩:=List.mem_map.1 hy;exact Z7q (fun y hy=>((hs' l hl).2 y hy).1))
  have hlen:(a0.length:Int)=pre.length+(suf.length+1):=by rw[h1];simp
  rw[Z0u.l0,if_pos (by simp;omega),Z1i h1 hi,sb,total_l1 a0 i x hx.1 x [] acc 0 rfl rfl ha hx.2,sb,Z07 (by omega) (by omega),List.map_cons,List.sum_cons];by_cases hov:acc+cnt x<18446744073709551616
  ·rw[if_pos hov]
   simp only[];rw[ih (pre++[x]) (acc+cnt x) (i+1) (by simp[h1]) (by simp;omega) ⟨by omega,hov⟩ hs',Int.add_assoc]
  ·rw[if_neg hov,if_neg (by omega)]
theorem total3 (p n:List Z0f) (z:Int) (hp:p.length<1000000000) (hn:n.length<1000000000) (hpU:∀ b∈p,U64 b.f1) (hnU:∀ b∈n,U64 b.f1) (hz:U64 z) :
  Z0u.f [p,n,[(⟨0,z⟩:Z0f)]]=some (if cnt p+cnt n+z<18446744073709551616 then(cnt p+cnt n+z,0) else(0,5)):=by
 unfold Z0u.f;rw[total_l0 [p,n,[(⟨0,z⟩:Z0f)]] (by simp) [p,n,[(⟨0,z⟩:Z0f)]] [] 0 0 rfl rfl (by omega) (by
  intro l hl;simp only[List.mem_cons,List.not_mem_nil,or_false] at hl;rcases hl with rfl | rfl | rfl
  ·exact⟨hp,hpU⟩
  ·exact⟨hn,hnU⟩
  ·exact⟨by simp,by simp;exact hz⟩),sb]
 have e:0+(([p,n,[(⟨0,z⟩:Z0f)]]:List (List Z0f)).map cnt).sum=cnt p+cnt n+z:=by simp[cnt];omega
 rw[e];by_cases h:cnt p+cnt n+z<18446744073709551616
 ·rw[if_pos h,if_pos h]
 ·rw[if_neg h,if_neg h]
theorem right_eq (s:Int):Z0z.f s=some (decide (-4≤s)&&decide (s≤8)):=by
 unfold Z0z.f;rw[ifand];rfl
def Z2u (s:Int):Prop:=-4≤s∧s≤8
instance (s:Int):Decidable (Z2u s):=inferInstanceAs (Decidable (_∧_))
theorem right_T {s:Int} (h:Z2u s):Z0z.f s=some true:=by rw[right_eq];simp[h.1,h.2]
theorem right_F {s:Int} (h:¬ Z2u s):Z0z.f s=some false:=by rw[right_eq];simp[Z2u] at h ⊢;omega
def stp (s:Int):Int:=2 ^ (8-s).toNat
theorem Z79 (s:Int):0<stp s:=by unfold stp;exact Int.pow_pos (by omega)
theorem stp_le {s:Int} (h:Z2u s):stp s≤4096:=by
 have h1:=h.1;have h2:=h.2;have:s = -4∨s = -3∨s = -2∨s = -1∨s=0∨s=1∨s=2∨s=3∨s=4∨s=5∨s=6∨s=7∨s=8:=by omega
 rcases this with rfl | rfl | rfl | rfl | rfl | rfl | rfl | rfl | rfl | rfl | rfl | rfl | rfl<;>decide
theorem shift_eq {s:Int} (h:Z2u s):min (Int.toNat (u64.wrap (i64.wrap ((8:Int)-s)))) 64=(8-s).toNat:=by
 have h1:=h.1;have h2:=h.2;rw[Z07 (by omega) (by omega),Z8m (by omega) (by omega)];omega
theorem most_T {s:Int} (h:Z2u s):Z2l.f s=some (262144 / stp s):=by
 unfold Z2l.f Z2d.f;rw[right_T h,sb,if_neg (by simp),sb,chkB (u64_wrap _).1,shift_eq h,Int.fdiv_eq_ediv_of_nonneg _ (by exact Int.le_of_lt (Z79 s))];rfl
theorem units_T {s i:Int} (h:Z2u s) (hi : -1000000000000<i∧i<1000000000000):Z30.f s i=some (i*stp s):=by
 unfold Z30.f Z2d.f;rw[right_T h,sb,if_neg (by simp),sb,chkB (u64_wrap _).1,shift_eq h];have h1:=Z79 s;have h2:=stp_le h;have h3:i*stp s≤1000000000000*4096:=by
  by_cases h0:0≤i
  ·exact Int.mul_le_mul (by omega) h2 (by omega) (by omega)
  ·have:i*stp s≤0:=Int.mul_nonpos_of_nonpos_of_nonneg (by omega) (by omega);omega
 have h4 : -(1000000000000*4096)≤i*stp s:=by
  by_cases h0:0≤i
  ·have:0≤i*stp s:=Int.mul_nonneg h0 (by omega);omega
  ·have : -i*stp s≤1000000000000*4096:=Int.mul_le_mul (by omega) h2 (by omega) (by omega)
   rw[Int.neg_mul] at this;omega
 show some (i64.wrap (i*stp s))=_;rw[Z07 (by omega) (by omega)]
theorem check_l0_eq (h:Z1c):Z14.l0 h 0=((Z0h.f h h.f6)>>=fun t=>if(t != (0:Int))=true then some (.inl t) else(Z0h.f h h.f7)>>=fun t=>if(t != (0:Int))=true then some (.inl t) else some (.inr ())):=by
 have w1:i64.wrap (0+1)=1:=by decide
 have w2:i64.wrap (1+1)=2:=by decide
 rw[Z14.l0,if_pos (by decide),chkB (by omega),if_pos (by decide),sb,w1];congr 1;funext t;split
 ·rfl
 ·rw[         Z14.l0,if_pos (by decide),chkB (by omega),if_neg (by decide),sb,w2]
  congr 1;funext t;split
  ·rfl
  ·rw[Z14.l0,if_neg (by decide)]
structure Fits (h:Z1c):Prop where
 kind:I64 h.f0
 schema:I64 h.f1
 zeroAt:I64 h.f2
 zero:U64 h.f3
 count:U64 h.f4
 sum:I64 h.f5
 pos:∀ b∈h.f6,I64 b.f0∧U64 b.f1
 neg:∀ b∈h.f7,I64 b.f0∧U64 b.f1
theorem fits_of {h:Z1c} (r:RHist h):Fits h:=⟨r.r0,r.r1,r.r2,r.r3,r.r4,r.r5,fun b hb=>let q:=r.r6.2 b hb;⟨q.r0,q.r1⟩,fun b hb=>let q:=r.r7.2 b hb;⟨q.r0,q.r1⟩⟩
theorem stp_dvd {s:Int} (h:Z2u s):262144 / stp s*stp s=262144:=by
 have h1:=h.1;have h2:=h.2;have:s = -4∨s = -3∨s = -2∨s = -1∨s=0∨s=1∨s=2∨s=3∨s=4∨s=5∨s=6∨s=7∨s=8:=by omega
 rcases this with rfl | rfl | rfl | rfl | rfl | rfl | rfl | rfl | rfl | rfl | rfl | rfl | rfl<;>decide
def InS (s i:Int):Prop:=-262144<i*stp s∧i*stp s≤262144
instance (s i:Int):Decidable (InS s i):=inferInstanceAs (Decidable (_∧_))
theorem inS_iff {s i:Int} (h:Z2u s):InS s i ↔ -(262144 / stp s)+1≤i∧i≤262144 / stp s:=by
 have hp:=Z79 s;have hd:=stp_dvd h;unfold InS;generalize 262144 / stp s=q at *;generalize stp s=st at *;constructor
 ·rintro⟨h1,h2⟩
  constructor
  ·have : -q*st<i*st:=by rw[Int.neg_mul];omega
   have:=Int.lt_of_mul_lt_mul_right this (Int.le_of_lt hp);omega
  ·have:i*st≤q*st:=by omega
   exact Int.le_of_mul_le_mul_right this hp
 ·rintro⟨h1,h2⟩
  constructor
  ·have:=Int.mul_lt_mul_of_pos_right (show -q<i by omega) hp
   rw[Int.neg_mul] at this;omega
  ·have:=Int.mul_le_mul_of_nonneg_right h2 (Int.le_of_lt hp);omega
theorem Z5j {s i:Int} (hi:InS s i) : -262144<i∧i≤262144:=by
 have hp:=Z79 s;obtain⟨h1,h2⟩:=hi;constructor
 ·by_cases h:i ≤ -262144
  ·have:=Int.mul_le_mul_of_nonneg_right h (Int.le_of_lt hp)
   have h3 : -262144*stp s ≤ -262144*1:=by
    have:=Int.mul_le_mul_of_nonneg_left (show 1≤stp s by omega) (show(0:Int)≤262144 by omega);omega
   omega
  ·omega
 ·by_cases h:262144<i
  ·have:=Int.mul_le_mul_of_nonneg_right (show 262145≤i by omega) (Int.le_of_lt hp)
   have h3:=Int.mul_le_mul_of_nonneg_left (show 1≤stp s by omega) (show(0:Int)≤262145 by omega);omega
  ·omega
theorem in_T {s i:Int} (h:Z2u s):Z47.f s i=some (decide (InS s i)):=by
 have hp:=Z79 s;have hq:0≤262144 / stp s∧262144 / stp s≤262144:=⟨Int.ediv_nonneg (by omega) (by omega),Int.ediv_le_self _ (by omega)⟩
 unfold Z47.f Z31.f;rw[right_T h,most_T h];simp only[sb,if_pos];rw[Z07 (n:=0-_) (by omega) (by omega),Z07 (by omega) (by omega),ifand,sb];congr 1;rw[← Bool.decide_and,decide_eq_decide,inS_iff h];constructor<;>intro h<;>constructor<;>omega
theorem low_T {s i:Int} (h:Z2u s) (hi:InS s i):Z3l.f s i=some ((i-1)*stp s):=by
 have:=Z5j hi;unfold Z3l.f;rw[Z07 (by omega) (by omega),units_T h (by omega)];rfl
theorem Z6l (s:Int):Z1k.f s=some (decide (Z2u s)):=by
 unfold Z1k.f;rw[ifand,← Bool.decide_and];rfl
theorem ref_step_l0 (s:Int):∀ (n:Nat) (x i:Int),i≤8→8-i=(n:Int) → -4≤i→0≤x→x*2 ^ n≤4096→Z23.l0 x i=some (x*2 ^ n):=by
 intro n
 induction n with
 | zero=>intro x i h1 h2 h3 h4 h5;rw[Z23.l0,if_neg (by simp;omega)];simp
 | succ n ih =>
  intro x i h1 h2 h3 h4 h5;have e:x*2 ^ (n+1)=x*2*2 ^ n:=by rw[Int.pow_succ,Int.mul_assoc,Int.mul_comm 2]
  have hp:(0:Int)<2 ^ n:=Int.pow_pos (by omega);have hle:x*2≤4096:=by
   have:=Int.mul_le_mul_of_nonneg_left (show(1:Int)≤2 ^ n by omega) (show 0≤x*2 by omega);omega
  rw[Z23.l0,if_pos (by simp;omega),Z07 (n:=x*2) (by omega) (by omega),Z07 (n:=i+1) (by omega) (by omega),ih (x*2) (i+1) (by omega) (by omega) (by omega) (by omega) (by omega),e]
theorem ref_step {s:Int} (h:Z2u s):Z23.f s=some (stp s):=by
 unfold Z23.f;have h1:=h.1;have h2:=h.2;rw[ref_step_l0 s (8-s).toNat 1 s h2 (by omega) h1 (by omega) (by rw[Int.one_mul];exact stp_le h)];simp[stp]
theorem Z8y {s i:Int} (h:Z2u s) (hi : -1000000000000<i∧i<1000000000000):Z29.f s i=some (i*stp s):=by
 unfold Z29.f;rw[Z6l,sb,if_neg (by simp[h]),ref_step h,sb];have h1:=Z79 s;have h2:=stp_le h;have h3:i*stp s≤1000000000000*4096:=by
  by_cases h0:0≤i
  ·exact Int.mul_le_mul (by omega) h2 (by omega) (by omega)
  ·have:i*stp s≤0:=Int.mul_nonpos_of_nonpos_of_nonneg (by omega) (by omega);omega
 have h4 : -(1000000000000*4096)≤i*stp s:=by
  by_cases h0:0≤i
  ·have:0≤i*stp s:=Int.mul_nonneg h0 (by omega);omega
  ·have : -i*stp s≤1000000000000*4096:=Int.mul_le_mul (by omega) h2 (by omega) (by omega)
   rw[Int.neg_mul] at this;omega
 rw[Z07 (by omega) (by omega)]
theorem ref_in {s i:Int} (h:Z2u s) (hi:I64 i):Z5s.f s i=some (decide (InS s i)):=by
 unfold Z5s.f;rw[Z6l,sb,if_pos (by simp[h])];by_cases h1:i > -262144
 ·rw[if_pos (by simpa using h1)]
  by_cases h2:i≤262144
  ·rw[if_pos (by simpa using h2),Z8y       h (by omega),sb]
   by_cases h3:i*stp s > -262144
   ·rw[if_pos (by simpa using h3),sb,sb]
    congr 1;rw[decide_eq_decide];exact⟨fun h=>⟨h3,h⟩,fun h=>h.2⟩
   ·rw[if_neg (by simpa using h3),sb]
    have:¬ InS s i:=fun h=>h3 h.1;simp[this]
  ·rw[if_neg (by simpa using h2),sb]
   have:¬ InS s i:=fun h=>by have:=Z5j h;omega
   simp[this]
 ·rw[if_neg (by simpa using h1),sb]
  have:¬ InS s i:=fun h=>by have:=Z5j h;omega
  simp[this]
structure BOk (s z:Int) (b:Z0f):Prop where
 ins:InS s b.f0
 pos:0<b.f1
 low:z≤(b.f0-1)*stp s
def Up:Option Int→List Z0f→Prop
 | _,[]=>True
 | p,b::l=>(∀ q,p=some q→q<b.f0)∧Up (some b.f0) l
theorem up_iff:∀ (l:List Z0f) (p:Option Int),Up p l↔(∀ q,p=some q→∀ b∈l,q<b.f0)∧l.Pairwise (fun a b=>a.f0<b.f0)
 | [],p=>by simp[Up]
 | x::l,p=>by
  rw[Up,up_iff l,List.pairwise_cons];constructor
  ·rintro⟨h1,h2,h3⟩
   refine⟨fun q hq b hb => ?_,fun b hb=>h2 _ rfl b hb,h3⟩;have h4:=h1 q hq;rcases List.mem_cons.1 hb with rfl | hb
   ·exact h4
   ·have:=h2 _ rfl b hb;omega
  ·rintro⟨h1,h2,h3⟩
   exact⟨fun q hq=>h1 q hq x (by simp),fun q hq b hb=>by cases hq;exact h2 b hb,h3⟩
structure Side (s z:Int) (l:List Z0f):Prop where
 len:l.length≤512
 ok:∀ b∈l,BOk s z b
 up:l.Pairwise (fun a b=>a.f0<b.f0)
structure Z8b (h:Z1c):Prop where
 kind:h.f0=0∨h.f0=1
 schema:Z2u h.f1
 zero:h.f2 = -524288∨(-262144<h.f2∧h.f2≤262144)
 pos:Side h.f1 h.f2 h.f6
 neg:Side h.f1 h.f2 h.f7
 total:cnt h.f6+cnt h.f7+h.f3<18446744073709551616
 count:h.f4=cnt h.f6+cnt h.f7+h.f3
theorem last_pre {l pre:List Z0f} {x:Z0f} {suf:List Z0f} {i:Int} (h1:l=pre++x::suf) (hi:i=(pre.length:Int)) (h0:0<i) (hl:l.length<1000000000) :
  ∃ q,(pre.getLast?).map (·.f0)=some q∧∃ y,at? l (i64.wrap (i-1))=some y∧y.f0=q:=by
 rcases List.eq_nil_or_concat pre with rfl | ⟨P,p,rfl⟩
 ·simp at hi;omega
 ·simp only[List.concat_eq_append] at *
  have hlen:l.length=P.length+1+(suf.length+1):=by rw[h1];simp;omega
  have hi2:i=(P.length:Int)+1:=by rw[hi];simp
  rw[Z07 (by omega) (by omega)];exact⟨p.f0,by simp,p,Z1i (pre:=P) (suf:=x::suf) (by simp[h1]) (by omega),rfl⟩
theorem no_pre {pre:List Z0f} {i:Int} (hi:i=(pre.length:Int)) (h0:¬ 0<i):(pre.getLast?).map (·.f0)=none:=by
 have:pre=[]:=List.length_eq_zero_iff.1 (by omega);subst this;rfl
theorem ref_add_l0 (l:List Int) (hl:l.length<4611686018427387904):∀ (suf pre:List Int) (acc i:Int),l=pre++suf→i=(pre.length:Int)→U64 acc→(∀ x∈suf,U64 x) →
  Z2j.l0 l acc i=some (if acc+suf.sum<18446744073709551616 then .inr (acc+suf.sum) else .inl (0,5)):=by
 intro suf
 induction suf with
 | nil =>
  intro pre acc i h1 hi ha hs;subst h1;rw[Z2j.l0,if_neg (by simp[hi])];simp[ha.2]
 | cons x suf ih =>
  intro pre acc i h1 hi ha hs;have hx:=hs x (by simp);have hs':∀ y∈suf,U64 y:=fun y hy=>hs y (by simp[hy])
  have hnn:0≤suf.sum:=Z4d (fun y hy=>(hs' y hy).1);have hlen:(l.length:Int)=pre.length+(suf.length+1):=by rw[h1];simp
  rw[Z2j.l0,if_pos (by rw[h1];simp[hi];omega),Z1i h1 hi,sb,Z8m (n:=18446744073709551615-acc) (by omega) (by omega)];by_cases hov:acc+x<18446744073709551616
  ·rw[if_neg (by simp;omega),Z07    (by omega) (by omega),Z8m   (by omega) (by omega)]
   rw[ih (pre++[x]) (acc+x) (i+1) (by simp[h1]) (by simp;omega) ⟨by omega,hov⟩ hs'];rw[List.sum_cons,Int.add_assoc]
  ·rw[if_pos (by simp;omega),if_neg (by rw[List.sum_cons];omega)]
theorem ref_add (l:List Int) (hl:l.length<4611686018427387904) (h:∀ x∈l,U64 x) :
  Z2j.f l=some (if l.sum<18446744073709551616 then(l.sum,0) else(0,5)):=by
 unfold Z2j.f;rw[ref_add_l0 l hl l [] 0 0 rfl rfl (by omega) h,sb,Int.zero_add];by_cases h:l.sum<18446744073709551616
 ·rw[if_pos h,if_pos h]
 ·rw[if_neg h,if_neg h]
theorem ref_check_l1 (h:Z1c) (x124:Int) (l:List Z0f) (hs:Z2u h.f1) (hl:l.length<1000000):∀ (suf pre:List Z0f) (acc:List Int) (i:Int),l=pre++suf→i=(pre.length:Int)→acc.length+suf.length<10000000→(∀ b∈suf,I64 b.f0∧U64 b.f1) →
  ∃ r,Z0b.l1 h x124 l acc i=some r∧(∀ c,r = .inl c→c≠0)∧((∃ a,r = .inr a)↔(∀ b∈suf,BOk h.f1 h.f2 b)∧Up ((pre.getLast?).map (·.f0)) suf)∧∀ a,r = .inr a→a=acc++suf.map (·.f1):=by
 intro suf
 induction suf with
 | nil =>
  intro pre acc i h1 hi _ _;subst h1;rw[Z0b.l1,if_neg (by simp[hi])];exact⟨_,rfl,by simp,by simp[Up],by simp⟩
 | cons x suf ih =>
  intro pre acc i h1 hi ha hU;have hx:=hU x (by simp);have hlen:(l.length:Int)=pre.length+(suf.length+1):=by rw[h1];simp
  simp only[List.length_cons] at ha;rw[Z0b.l1,if_pos (by simp;omega),Z1i h1 hi,sb,ref_in hs hx.1,sb];by_cases c1:InS h.f1 x.f0
  case neg =>
   rw[if_pos (by simp[c1])];exact⟨_,rfl,by simp,by simp;intro h;exact absurd h.ins c1,by simp⟩
  rw[if_neg (by simp[c1])];have hsm:=Z5j c1;have hprev:∃ c:Bool,((if(decide (i>(0:Int)))=true then((at? l (i64.wrap (i-(1:Int))))>>=fun b168=>some (decide (x.f0≤b168.f0))) else(some false)):Option (Bool))=some c∧(c=false↔∀ q,(pre.getLast?).map (·.f0)=some q→q<x.f0):=by
   by_cases h0:0<i
   ·obtain⟨q,e1,y,e2,e3⟩:=last_pre h1 hi h0 (by omega)
    rw[if_pos (by simpa using h0),e2,sb];exact⟨_,rfl,by rw[e1,e3];simp⟩
   ·rw[if_neg (by simpa using h0)]
    exact⟨_,rfl,by rw[no_pre hi h0];simp⟩
  obtain⟨c,ec,hc⟩:=hprev;rw[ec,sb,Z07 (n:=x.f0-1) (by omega) (by omega),Z8y hs (by omega)];cases c with
  | true =>
   rw[if_pos rfl];refine⟨_,rfl,by simp,by simp;intro _ _ h2;exact absurd (hc.2 h2.1) (by simp),by simp⟩
  | false =>
   rw[if_neg (by simp)];by_cases c2:x.f1=0
   ·rw[if_pos (by simpa using c2)]
    exact⟨_,rfl,by simp,by simp;intro h;have:=h.pos;omega,by simp⟩
   rw[if_neg (by simpa using c2),sb];by_cases c3:(x.f0-1)*stp h.f1<h.f2
   ·rw[if_pos (by simpa using c3)]
    exact⟨_,rfl,by simp,by simp;intro h;have:=h.low;omega,by simp⟩
   rw[if_neg (by simpa using c3),chkB (by simp;omega),Z07 (n:=i+1) (by omega) (by omega)];obtain⟨r,e,e1,e2,e3⟩:=ih (pre++[x]) (acc++[x.f1]) (i+1) (by simp[h1]) (by simp;omega) (by simp;omega) (fun b hb=>hU b (by simp[hb]));refine⟨r,e,e1,?_,fun a ha=>by rw[e3 a ha];simp⟩;rw[e2];simp only[List.getLast?_append,List.getLast?_singleton,Option.some_or,Option.map_some,Up,List.forall_mem_cons];have hb:BOk h.f1 h.f2 x:=⟨c1,by omega,by omega⟩
   constructor
   ·rintro⟨a,b⟩;exact⟨⟨hb,a⟩,hc.1 rfl,b⟩
   ·rintro⟨⟨_,a⟩,_,b⟩;exact⟨a,b⟩
theorem Z62 (h:Z1c) (x124:Int) (l:List Z0f) (acc:List Int) (hs:Z2u h.f1) (hl:l.length<1000000000000000) (ha:acc.length<1000000) (hU:∀ b∈l,I64 b.f0∧U64 b.f1) :
  ∃ r:Int ⊕ List Int,(if(decide ((l.length:Int)>(512:Int)))=true then(some (.inl 9)) else(Z0b.l1 h x124 l acc 0))=some r∧(∀ c,r = .inl c→c≠0)∧((∃ a,r = .inr a)↔Side h.f1 h.f2 l)∧∀ a,r = .inr a→a=acc++l.map (·.f1):=by
 by_cases h0:l.length>512
 ·rw[if_pos (by simp;omega)]
  exact⟨_,rfl,by simp,by simp;intro h;have:=h.len;omega,by simp⟩
 ·rw[if_neg (by simp;omega)]
  obtain⟨r,e,e1,e2,e3⟩:=ref_check_l1 h x124 l hs (by omega) l [] acc 0 rfl rfl (by omega) hU;refine⟨r,e,e1,e2.trans ⟨fun⟨h1,h2⟩=>⟨by omega,h1,((up_iff l _).1 h2).2⟩,fun h=>⟨h.ok,(up_iff l _).2 ⟨by simp,h.up⟩⟩⟩,e3⟩
theorem ref_check_iff (h:Z1c) (hf:Fits h) (hp:h.f6.length<1000000000000000) (hn:h.f7.length<1000000000000000):∃ r,Z0b.f h=some r∧(r=0↔Z8b h):=by
 unfold Z0b.f;have hk:((if(h.f0 != (0:Int))=true then(some (h.f0 != (1:Int))) else(some false)):Option (Bool))=some (!decide (h.f0=0∨h.f0=1)):=by
  by_cases h1:h.f0=0
  ·simp[h1]
  ·by_cases h2:h.f0=1<;>simp[h1,h2]
 rw[hk,sb];by_cases c1:h.f0=0∨h.f0=1
 case neg=>rw[if_pos (by simpa using c1)];exact⟨_,rfl,by simp;intro h;exact c1 h.kind⟩
 rw[if_neg (by rw[decide_eq_true c1];decide),Z6l,sb];by_cases c2:Z2u h.f1
 case neg=>rw[if_pos (by simp[c2])];exact⟨_,rfl,by simp;intro h;exact c2 h.schema⟩
 rw[if_neg (by simp[c2])];have hz:((if(h.f2 != (-524288))=true then(if(decide (h.f2≤(-262144)))=true then(some true) else(some (decide (h.f2>(262144:Int))))) else(some false)):Option (Bool))=some (!decide (h.f2 = -524288∨(-262144<h.f2∧h.f2≤262144))):=by
  by_cases h1:h.f2 = -524288
  ·simp[h1]
  ·by_cases h2:h.f2 ≤ -262144
   ·simp[h1,h2]
   ·have h4 : -262144<h.f2:=by omega
    by_cases h3:h.f2≤262144
    ·simp[h1,h2,h3,h4]
    ·simp[h1,h2,h3,h4];omega
 rw[hz,sb];by_cases c3:h.f2 = -524288∨(-262144<h.f2∧h.f2≤262144)
 case neg=>rw[if_pos (by simp[c3])];exact⟨_,rfl,by simp;intro h;exact c3 h.zero⟩
 rw[if_neg (by simp[c3])];obtain⟨r1,e1,n1,i1,j1⟩:=Z62 h 0 h.f6 [h.f3] c2 hp (by simp) hf.pos;have w1:i64.wrap (0+1)=1:=by decide
 have w2:i64.wrap (1+1)=2:=by decide
 have step:∀ (k:Int) (l:List Z0f) (acc:List Int),(k=0∧l=h.f6∨k=1∧l=h.f7)→Z0b.l0 h acc k=((if(decide ((l.length:Int)>(512:Int)))=true then(some (.inl 9)) else(Z0b.l1 h k l acc 0))>>=fun(oo:Int ⊕ List Int)=>match oo with | .inl rr=>(some (.inl rr)) | .inr x181=>(Z0b.l0 h x181 (k+1))):=by
  intro k l acc hk;rcases hk with ⟨rfl,rfl⟩ | ⟨rfl,rfl⟩
  ·rw[Z0b.l0,if_pos (by decide),if_neg (by decide),sb,w1,Z72];rfl
  ·rw[Z0b.l0,if_pos (by decide),if_pos (by decide),sb,w2,Z72];rfl
 rw[step 0 h.f6 _ (.inl ⟨rfl,rfl⟩),e1,sb];cases r1 with
 | inl c=>exact⟨c,rfl,fun h=>absurd h (n1 c rfl),fun h=>by obtain⟨a,e⟩:=i1.2 h.pos;cases e⟩
 | inr a1 =>
  have hv1:=i1.1 ⟨_,rfl⟩;have ha1:=j1 a1 rfl;have hl1:=hv1.len;obtain⟨r2,e2,n2,i2,j2⟩:=Z62 h 1 h.f7 a1 c2 hn (by rw[ha1];simp;omega) hf.neg;simp only[];rw[show(0:Int)+1=1 from rfl,step 1 h.f7 _ (.inr ⟨rfl,rfl⟩),e2,sb];cases r2 with
  | inl c=>exact⟨c,rfl,fun h=>absurd h (n2 c rfl),fun h=>by obtain⟨a,e⟩:=i2.2 h.neg;cases e⟩
  | inr a2 =>
   have hv2:=i2.1 ⟨_,rfl⟩;have ha2:=j2 a2 rfl;have hl2:=hv2.len;simp only[];rw[show(1:Int)+1=2 from rfl,Z0b.l0,if_neg (by decide),sb];simp only[];have hall:a2=[h.f3]++h.f6.map (·.f1)++h.f7.map (·.f1):=by rw[ha2,ha1]
   have hsum:a2.sum=cnt h.f6+cnt h.f7+h.f3:=by rw[hall];simp[cnt];omega
   rw[ref_add a2 (by rw[hall];simp;omega) (by
    intro x hx;rw[hall] at hx;simp only[List.mem_append,List.mem_singleton,List.mem_map] at hx;rcases hx with (rfl | ⟨b,hb,rfl⟩) | ⟨b,hb,rfl⟩
    ·exact hf.zero
    ·exact(hf.pos b hb).2
    ·exact(hf.neg b hb).2),sb,hsum]
   by_cases c4:cnt h.f6+cnt h.f7+h.f3<18446744073709551616
   case neg=>rw[if_neg c4,if_pos (by simp)];exact⟨_,rfl,by simp;intro h;exact c4 h.total⟩
   rw[if_pos c4,if_neg (by simp)];by_cases c5:cnt h.f6+cnt h.f7+h.f3=h.f4
   ·rw[if_neg (by simpa using c5)]
    exact⟨0,rfl,fun _=>⟨c1,c2,c3,hv1,hv2,c4,c5.symm⟩,fun _=>rfl⟩
   ·rw[if_pos (by simpa using c5)]
    exact⟨_,rfl,by simp;intro h;exact c5 h.count.symm⟩
theorem bk_same (h:Z1c) (x124:Int) (l:List Z0f) (hs:Z2u h.f1) (hl:l.length<1000000):∀ (suf pre:List Z0f) (acc:List Int) (i:Int),l=pre++suf→i=(pre.length:Int)→acc.length+suf.length<10000000→(∀ b∈suf,I64 b.f0∧U64 b.f1) →
  ∃ r:Int,Z0h.l0 h l i=some (if r=0 then .inr () else .inl r)∧Z0b.l1 h x124 l acc i=some (if r=0 then .inr (acc++suf.map (·.f1)) else .inl r):=by
 intro suf
 induction suf with
 | nil =>
  intro pre acc i h1 hi _ _;subst h1;refine⟨0,?_,?_⟩
  ·rw[Z0h.l0,if_neg (by simp[hi]),if_pos rfl]
  ·rw[Z0b.l1,if_neg (by simp[hi]),if_pos rfl];simp
 | cons x suf ih =>
  intro pre acc i h1 hi ha hU;have hx:=hU x (by simp);have hlen:(l.length:Int)=pre.length+(suf.length+1):=by rw[h1];simp
  simp only[List.length_cons] at ha;by_cases c1:InS h.f1 x.f0
  case neg =>
   refine⟨4,?_,?_⟩
   ·rw[Z0h.l0,if_pos (by simp;omega),Z1i h1 hi,sb,in_T hs,sb,if_pos (by simp[c1]),if_neg (by omega)]
   ·rw[Z0b.l1,if_pos (by simp;omega),Z1i h1 hi,sb,ref_in hs hx.1,sb,if_pos (by simp[c1]),if_neg (by omega)]
  have hsm:=Z5j c1;obtain⟨c,ec1,ec2⟩:∃ c:Bool,((if(decide (i>(0:Int)))=true then((at? l (i64.wrap (i-(1:Int))))>>=fun b922=>some (decide (b922.f0≥x.f0))) else(some false)):Option (Bool))=some c ∧
    ((if(decide (i>(0:Int)))=true then((at? l (i64.wrap (i-(1:Int))))>>=fun b168=>some (decide (x.f0≤b168.f0))) else(some false)):Option (Bool))=some c:=by
   by_cases h0:0<i
   ·obtain⟨q,e1,y,e2,e3⟩:=last_pre h1 hi h0 (by omega)
    exact⟨decide (x.f0≤y.f0),by rw[if_pos (by simpa using h0),e2,sb],by rw[if_pos (by simpa using h0),e2,sb]⟩
   ·exact⟨false,by rw[if_neg (by simpa using h0)],by rw[if_neg (by simpa using h0)]⟩
  have P:Z0h.l0 h l i=(if c=true then some (.inl 32) else if x.f1=0 then some (.inl 21) else if(x.f0-1)*stp h.f1<h.f2 then some (.inl 31) else Z0h.l0 h l (i+1)):=by
   rw[Z0h.l0,if_pos (by simp;omega),Z1i h1 hi,sb,in_T hs,sb,if_neg (by simp[c1]),ec1,sb,low_T hs c1,Z07 (n:=i+1) (by omega) (by omega)];simp only[sb];simp
  have Q:Z0b.l1 h x124 l acc i=(if c=true then some (.inl 32) else if x.f1=0 then some (.inl 21) else if(x.f0-1)*stp h.f1<h.f2 then some (.inl 31) else Z0b.l1 h x124 l (acc++[x.f1]) (i+1)):=by
   rw[Z0b.l1,if_pos (by simp;omega),Z1i h1 hi,sb,ref_in hs hx.1,sb,if_neg (by simp[c1]),ec2,sb,Z07 (n:=x.f0-1) (by omega) (by omega),Z8y hs (by omega),chkB (by simp;omega),Z07 (n:=i+1) (by omega) (by omega)];simp only[sb];simp
  cases c with
  | true=>exact⟨32,by rw[P,if_pos rfl,if_neg (by omega)],by rw[Q,if_pos rfl,if_neg (by omega)]⟩
  | false =>
   by_cases c2:x.f1=0
   ·exact⟨21,by rw[P,if_neg (by simp),if_pos c2,if_neg (by omega)],by rw[Q,if_neg (by simp),if_pos c2,if_neg (by omega)]⟩
   by_cases c3:(x.f0-1)*stp h.f1<h.f2
   ·exact⟨31,by rw[P,if_neg (by simp),if_neg c2,if_pos c3,if_neg (by omega)],by rw[Q,if_neg (by simp),if_neg c2,if_pos c3,if_neg (by omega)]⟩
   obtain⟨r,e1,e2⟩:=ih (pre++[x]) (acc++[x.f1]) (i+1) (by simp[h1]) (by simp;omega) (by simp;omega) (fun b hb=>hU b (by simp[hb]));exact⟨r,by rw[P,if_neg (by simp),if_neg c2,if_neg c3,e1],by rw[Q,if_neg (by simp),if_neg c2,if_neg c3,e2];simp⟩
theorem side_same (h:Z1c) (x124:Int) (l:List Z0f) (acc:List Int) (hs:Z2u h.f1) (ha:acc.length<1000000) (hU:∀ b∈l,I64 b.f0∧U64 b.f1) :
  ∃ r:Int,Z0h.f h l=some r∧(if(decide ((l.length:Int)>(512:Int)))=true then(some (.inl 9)) else(Z0b.l1 h x124 l acc 0))=some (if r=0 then Sum.inr (acc++l.map (·.f1)) else .inl r):=by
 by_cases h0:l.length>512
 ·refine⟨9,?_,?_⟩
  ·unfold            Z0h.f
   rw[if_pos (by simp;omega)]
  ·rw[if_pos (by simp;omega),if_neg (by omega)]
 ·obtain⟨r,e1,e2⟩:=bk_same h x124 l hs (by omega) l [] acc 0 rfl rfl (by omega) hU
  refine⟨r,?_,?_⟩
  ·unfold            Z0h.f
   rw[if_neg (by simp;omega),e1,sb];by_cases c:r=0
   ·rw[if_pos c];simp[c]
   ·rw[if_neg c]
  ·rw[if_neg (by simp;omega),e2]
theorem check_same (h:Z1c) (hf:Fits h) (hp:h.f6.length<1000000000000000) (hn:h.f7.length<1000000000000000):∃ r,Z14.f h=some r∧Z0b.f h=some r∧(r=0↔Z8b h):=by
 obtain⟨r,er,hr⟩:=ref_check_iff h hf hp hn;refine⟨r,?_,er,hr⟩
 suffices q:Z0b.f h=Z14.f h by rw[← q];exact er
 clear er hr;have hk:((if(h.f0 != (0:Int))=true then(some (h.f0 != (1:Int))) else(some false)):Option (Bool))=some (!decide (h.f0=0∨h.f0=1)):=by
  by_cases h1:h.f0=0
  ·simp[h1]
  ·by_cases h2:h.f0=1<;>simp[h1,h2]
 have hz:((if(h.f2 != (-524288))=true then(if(decide (h.f2≤(-262144)))=true then(some true) else(some (decide (h.f2>(262144:Int))))) else(some false)):Option (Bool))=some (!decide (h.f2 = -524288∨(-262144<h.f2∧h.f2≤262144))):=by
  by_cases h1:h.f2 = -524288
  ·simp[h1]
  ·by_cases h2:h.f2 ≤ -262144
   ·simp[h1,h2]
   ·have h4 : -262144<h.f2:=by omega
    by_cases h3:h.f2≤262144
    ·simp[h1,h2,h3,h4]
    ·simp[h1,h2,h3,h4];omega
 unfold Z14.f Z0b.f;rw[hk,sb,sb,Z6l];by_cases c1:h.f0=0∨h.f0=1
 case neg=>rw[if_pos (by simpa using c1),if_pos (by simpa using c1)]
 have hk1:¬ ((!decide (h.f0=0∨h.f0=1))=true):=by rw[decide_eq_true c1];decide
 rw[if_neg hk1,if_neg hk1];by_cases c2:Z2u h.f1
 case neg=>rw[right_F c2,sb,sb,if_pos (by simp[c2]),if_pos (by simp)]
 rw[right_T c2,sb,sb];rw[if_neg (show ¬ ((!decide (Z2u h.f1))=true) by simp[c2]),if_neg (show ¬ ((!true)=true) by simp),hz,sb,sb];by_cases c3:h.f2 = -524288∨(-262144<h.f2∧h.f2≤262144)
 case neg =>
  have hk3:(!decide (h.f2 = -524288∨(-262144<h.f2∧h.f2≤262144)))=true:=by rw[decide_eq_false c3];rfl
  rw[if_pos hk3,if_pos hk3]
 have hk3:¬ ((!decide (h.f2 = -524288∨(-262144<h.f2∧h.f2≤262144)))=true):=by rw[decide_eq_true c3];decide
 rw[if_neg hk3,if_neg hk3];obtain⟨r1,p1,q1⟩:=side_same h 0 h.f6 [h.f3] c2 (by simp) hf.pos;have w1:i64.wrap (0+1)=1:=by decide
 have w2:i64.wrap (1+1)=2:=by decide
 have step:∀ (k:Int) (l:List Z0f) (acc:List Int),(k=0∧l=h.f6∨k=1∧l=h.f7)→Z0b.l0 h acc k=((if(decide ((l.length:Int)>(512:Int)))=true then(some (.inl 9)) else(Z0b.l1 h k l acc 0))>>=fun(oo:Int ⊕ List Int)=>match oo with | .inl rr=>(some (.inl rr)) | .inr x181=>(Z0b.l0 h x181 (k+1))):=by
  intro k l acc hk;rcases hk with ⟨rfl,rfl⟩ | ⟨rfl,rfl⟩
  ·rw[Z0b.l0,if_pos (by decide),if_neg (by decide),sb,w1,Z72];rfl
  ·rw[Z0b.l0,if_pos (by decide),if_pos (by decide),sb,w2,Z72];rfl
 rw[step 0 h.f6 _ (.inl ⟨rfl,rfl⟩),q1,sb,check_l0_eq,p1,sb];by_cases d1:r1=0
 case neg=>rw[if_neg d1,if_pos (by simpa using d1)];simp only[sb]
 rw[if_pos d1,if_neg (by simpa using d1)];by_cases hlen6:h.f6.length≤512
 case neg =>
  exfalso;have:Z0h.f h h.f6=some 9:=by unfold Z0h.f;rw[if_pos (by simp;omega)]
  rw[p1] at this;simp at this;omega
 obtain⟨r2,p2,q2⟩:=side_same h 1 h.f7 ([h.f3]++h.f6.map (·.f1)) c2 (by simp;omega) hf.neg;simp only[];rw[show(0:Int)+1=1 from rfl,step 1 h.f7 _ (.inr ⟨rfl,rfl⟩),q2,sb,p2,sb];by_cases d2:r2=0
 case neg=>rw[if_neg d2,if_pos (by simpa using d2)];simp only[sb]
 rw[if_pos d2,if_neg (by simpa using d2)];by_cases hlen7:h.f7.length≤512
 case neg =>
  exfalso;have:Z0h.f h h.f7=some 9:=by unfold Z0h.f;rw[if_pos (by simp;omega)]
  rw[p2] at this;simp at this;omega
 simp only[];rw[show(1:Int)+1=2 from rfl,Z0b.l0,if_neg (by decide),sb,sb];simp only[];rw[total3 _ _ _ (by omega) (by omega) (fun b hb=>(hf.pos b hb).2) (fun b hb=>(hf.neg b hb).2) hf.zero,sb];have hsum:(([h.f3]++h.f6.map (·.f1))++h.f7.map (·.f1)).sum=cnt h.f6+cnt h.f7+h.f3:=by simp[cnt];omega
 rw[ref_add _ (by simp;omega) (by
  intro x hx;simp only[List.mem_append,List.mem_singleton,List.mem_map] at hx;rcases hx with (rfl | ⟨b,hb,rfl⟩) | ⟨b,hb,rfl⟩
  ·exact hf.zero
  ·exact(hf.pos b hb).2
  ·exact(hf.neg b hb).2),sb,hsum]
 by_cases c4:cnt h.f6+cnt h.f7+h.f3<18446744073709551616
 ·rw[if_pos c4];try simp
 ·rw[if_neg c4];try simp
end Go.Proofs.Ytpoihfcehejgfaa.PvGP
namespace Go.Proofs.Ytpoihfcehejgfaa.PvGP
open Go Go.Pv Go.Pv.GS Go.IntKind
open Classical
structure Bs (s z:Int) (l:List Z0f):Prop where
 len:l.length≤5000
 ok:∀ b∈l,InS s b.f0∧0≤b.f1∧z≤(b.f0-1)*stp s
def Strad (s a:Int) (l:List Z0f):Prop:=∃ b∈l,(b.f0-1)*stp s<a∧a<b.f0*stp s
def cg (s a:Int):Int:=-((-a) / stp s)*stp s
abbrev above (s a i:Int):Bool:=decide (a<i*stp s)
abbrev dropL (s a:Int) (l:List Z0f):List Z0f:=l.filter (fun b => !above s a b.f0)
noncomputable def zAt (s a:Int) (p n:List Z0f):Int:=if Strad s a p∨Strad s a n then cg s a else a
structure Cs (s:Int) (l:List Z0f):Prop where
 len:l.length≤5000
 ins:∀ b∈l,InS s b.f0
 pos:∀ b∈l,0<b.f1
structure Swal (h:Z1c) (p n:List Z0f) (a:Int) (r:Z1c):Prop where
 valid:Z8b r
 fits:Fits r
 kind:r.f0=h.f0
 schema:r.f1=h.f1
 zeroAt:r.f2=zAt h.f1 a p n
 zero:r.f3=h.f3+cnt (dropL h.f1 (zAt h.f1 a p n) p)+cnt (dropL h.f1 (zAt h.f1 a p n) n)
 sum:r.f5=h.f5
 tpos:∀ i,tot r.f6 i=if above h.f1 (zAt h.f1 a p n) i=true then tot p i else 0
 tneg:∀ i,tot r.f7 i=if above h.f1 (zAt h.f1 a p n) i=true then tot n i else 0
 count:r.f4=cnt p+cnt n+h.f3
def rat (f t:Int):Int:=2 ^ (f-t).toNat
def upI (f t i:Int):Int:=-((-i) / rat f t)
def downL (f t:Int) (l:List Z0f):List Z0f:=l.map (fun b=>⟨upI f t b.f0,b.f1⟩)
def h0:Z1c:=⟨0,0,0,0,0,0,[],[]⟩
structure Cut (a:Z1c) (s z:Int) (r:Z1c):Prop where
 valid:Z8b r
 fits:Fits r
 kind:r.f0=a.f0
 schema:r.f1=s
 zeroAt:r.f2=z
 count:r.f4=a.f4
 sum:r.f5=a.f5
 tpos:∀ i,tot r.f6 i=if above s z i=true then tot (downL a.f1 s a.f6) i else 0
 tneg:∀ i,tot r.f7 i=if above s z i=true then tot (downL a.f1 s a.f7) i else 0
def Cand (hv:Bool) (last:Int) (b:Z0f):Prop:=hv=false∨last<b.f0
structure Least (hv:Bool) (last:Int) (l:List Z0f) (fd:Bool) (nx:Int):Prop where
 none:fd=false→∀ b∈l,¬ Cand hv last b
 some:fd=true→(∃ b∈l,Cand hv last b∧b.f0=nx)∧∀ b∈l,Cand hv last b→nx≤b.f0
structure Pair (p q:Z1c):Prop where
 vp:Z8b p
 vq:Z8b q
 fp:Fits p
 fq:Fits q
 schema:p.f1=q.f1
 zeroAt:p.f2=q.f2
structure Sumd (p q r:Z1c):Prop where
 valid:Z8b r
 fits:Fits r
 kind:r.f0=if q.f0>p.f0 then q.f0 else p.f0
 schema:r.f1=p.f1
 zeroAt:r.f2=p.f2
 zero:r.f3=p.f3+q.f3
 count:r.f4=p.f4+q.f4
 sum:r.f5=p.f5+q.f5
 tpos:∀ i,tot r.f6 i=tot p.f6 i+tot q.f6 i
 tneg:∀ i,tot r.f7 i=tot p.f7 i+tot q.f7 i
structure Lessd (p q r:Z1c):Prop where
 valid:Z8b r
 fits:Fits r
 kind:r.f0=p.f0
 schema:r.f1=p.f1
 zeroAt:r.f2=p.f2
 zero:r.f3=p.f3-q.f3
 count:r.f4=p.f4-q.f4
 sum:r.f5=p.f5-q.f5
 tpos:∀ i,tot r.f6 i=tot p.f6 i-tot q.f6 i
 tneg:∀ i,tot r.f7 i=tot p.f7 i-tot q.f7 i
end Go.Proofs.Ytpoihfcehejgfaa.PvGP
namespace Go.Proofs.Ytpoihfcehejgfaa.PvGP
open Go Go.Pv Go.Pv.GS Go.IntKind
def sideI (k:Int) (h:Z1c):List Z0f:=if k=0 then h.f6 else h.f7
def allI (k:Int) (l:List Zf):List Int:=l.foldl (fun u s=>uni u ((sideI k s.f1).map (·.f0))) []
structure COk (l:List Zf):Prop where
 ok:∀ s∈l,Z8b s.f1∧0≤s.f0∧s.f0≤1099511627776
 len:l.length≤32
 up:l.Pairwise (fun a b=>a.f0<b.f0)
 head:∀ s∈l,∀ t∈l,s.f1.f0=t.f1.f0∧s.f1.f1=t.f1.f1∧s.f1.f2=t.f1.f2
 pos:(allI 0 l).length≤512
 neg:(allI 1 l).length≤512
theorem COk.nil:COk []:=⟨by simp,by simp,by simp,by simp,by simp[allI],by simp[allI]⟩
def row0 (r:List Int):List Bool:=r.flatMap fun n=>cnt2 n.toNat
theorem eqloop {α:Type} [DecidableEq α] (a b:List α) (hl:a.length=b.length) (ha:a.length<1000000000000) (ne:α→α→Bool) (hne:∀ x y,ne x y = !decide (x=y)) (F:Int→Option (Bool ⊕ Unit)) (hF:∀ i,F i=if(decide (i<(a.length:Int)))=true then((at? a i)>>=fun x=>(at? b i)>>=fun y=>if ne x y=true then(some (.inl false)) else F (i64.wrap (i+(1:Int)))) else(some (.inr ()))) :
  ∀ (sa pa sb' pb:List α) (i:Int),a=pa++sa→b=pb++sb'→pa.length=pb.length→i=(pa.length:Int)→F i=some (if sa=sb' then .inr () else .inl false):=by
 intro sa
 induction sa with
 | nil =>
  intro pa sb' pb i h1 h2 h3 hi;have e:sb'=[]:=by
   have l1:=congrArg List.length h1;have l2:=congrArg List.length h2;simp only[List.length_append,List.length_nil] at l1 l2;exact List.length_eq_zero_iff.1 (by omega)
  rw[hF,if_neg (by rw[h1];simp[hi]),e,if_pos rfl]
 | cons x sa ih =>
  intro pa sb' pb i h1 h2 h3 hi;have l1:=congrArg List.length h1;have l2:=congrArg List.length h2;simp only[List.length_append,List.length_cons] at l1 l2;cases sb' with
  | nil=>simp only[List.length_nil] at l2;omega
  | cons y sb' =>
   rw[hF,if_pos (by simp;omega),Z1i h1 hi,sb,Z1i h2 (by omega),sb,hne,Z07 (by omega) (by omega)];by_cases c:x=y
   ·subst c
    rw[if_neg (by simp),ih (pa++[x]) sb' (pb++[x]) (i+1) (by simp[h1]) (by simp[h2]) (by simp[h3]) (by simp;omega)];by_cases c2:sa=sb'
    ·rw[if_pos c2,if_pos (by rw[c2])]
    ·rw[if_neg c2,if_neg (by simp[c2])]
   ·rw[if_pos (by simp[c]),if_neg (by simp[c])]
theorem bkt_ne (x y:Z0f):(!((x.f0==y.f0)&&((x.f1==y.f1)&&true))) = !decide (x=y):=by
 obtain⟨a,b⟩:=x;obtain⟨c,d⟩:=y;by_cases h1:a=c<;>by_cases h2:b=d<;>simp[h1,h2]
theorem rsame_eq (a b:List Z0f) (ha:a.length<1000000000000):Z1q.f a b=some (decide (a=b)):=by
 unfold Z1q.f;by_cases hl:a.length=b.length
 ·have L:=eqloop a b hl ha (fun x y => !((x.f0==y.f0)&&((x.f1==y.f1)&&true))) bkt_ne (       Z1q.l0 a b) (fun i=>by rw[       Z1q.l0]) a [] b [] 0 rfl rfl rfl rfl
  rw[if_neg (by simp;omega),L,sb];by_cases c:a=b
  ·rw[if_pos c,decide_eq_true c]
  ·rw[if_neg c,decide_eq_false c]
 ·rw[if_pos (by simp;omega),decide_eq_false (fun h=>hl (by rw[h]))]
theorem rSame_eq (a b:Z1c) (h6:a.f6.length<1000000000000) (h7:a.f7.length<1000000000000):Z46.f a b=some (decide (a=b)):=by
 unfold Z46.f;rw[rsame_eq _ _ h6,rsame_eq _ _ h7];obtain⟨a0,a1,a2,a3,a4,a5,a6,a7⟩:=a;obtain⟨b0,b1,b2,b3,b4,b5,b6,b7⟩:=b;simp only[sb];by_cases c0:a0=b0
 case neg=>rw[if_neg (by simpa using c0),sb,decide_eq_false (by simp[c0])]
 by_cases c1:a1=b1
 case neg=>rw[if_pos (by simpa using c0),if_neg (by simpa using c1),sb,decide_eq_false (by simp[c1])]
 by_cases c2:a2=b2
 case neg=>rw[if_pos (by simpa using c0),if_pos (by simpa using c1),if_neg (by simpa using c2),sb,decide_eq_false (by simp[c2])]
 by_cases c3:a3=b3
 case neg=>rw[if_pos (by simpa using c0),if_pos (by simpa using c1),if_pos (by simpa using c2),if_neg (by simpa using c3),sb,decide_eq_false (by simp[c3])]
 by_cases c4:a4=b4
 case neg=>rw[if_pos (by simpa using c0),if_pos (by simpa using c1),if_pos (by simpa using c2),if_pos (by simpa using c3),if_neg (by simpa using c4),sb,decide_eq_false (by simp[c4])]
 by_cases c5:a5=b5
 case neg=>rw[if_pos (by simpa using c0),if_pos (by simpa using c1),if_pos (by simpa using c2),if_pos (by simpa using c3),if_pos (by simpa using c4),if_neg (by simpa using c5),sb,decide_eq_false (by simp[c5])]
 rw[if_pos (by simpa using c0),if_pos (by simpa using c1),if_pos (by simpa using c2),if_pos (by simpa using c3),if_pos (by simpa using c4),if_pos (by simpa using c5)];by_cases c6:a6=b6
 case neg=>rw[if_neg (by simpa using c6),sb,decide_eq_false (by simp[c6])]
 by_cases c7:a7=b7
 case neg=>rw[if_pos (by simpa using c6),decide_eq_false c7,sb,decide_eq_false (by simp[c7])]
 rw[if_pos (by simpa using c6),decide_eq_true c7,sb,decide_eq_true (by simp[c0,c1,c2,c3,c4,c5,c6,c7])]
theorem smp_l0' (a b:List Zf) (hl:a.length=b.length) (ha:a.length<1000000000000) (hs:∀ s∈a,s.f1.f6.length<1000000000000∧s.f1.f7.length<1000000000000) :
  ∀ (sa pa sb' pb:List Zf) (i:Int),a=pa++sa→b=pb++sb'→pa.length=pb.length→i=(pa.length:Int)→Z25.l0 a b i=some (if sa=sb' then .inr () else .inl false):=by
 intro sa
 induction sa with
 | nil =>
  intro pa sb' pb i h1 h2 h3 hi;have e:sb'=[]:=by
   have l1:=congrArg List.length h1;have l2:=congrArg List.length h2;simp only[List.length_append,List.length_nil] at l1 l2;exact List.length_eq_zero_iff.1 (by omega)
  rw[Z25.l0,if_neg (by rw[h1];simp[hi]),e,if_pos rfl]
 | cons x sa ih =>
  intro pa sb' pb i h1 h2 h3 hi;have l1:=congrArg List.length h1;have l2:=congrArg List.length h2;simp only[List.length_append,List.length_cons] at l1 l2;have hx:=hs x (by rw[h1];simp);cases sb' with
  | nil=>simp only[List.length_nil] at l2;omega
  | cons y sb' =>
   rw[Z25.l0,if_pos (by simp;omega),Z1i h1 hi,sb,Z1i h2 (by omega),sb,rSame_eq _ _ hx.1 hx.2,sb,Z07 (by omega) (by omega)];have e:((if(x.f0 != y.f0)=true then(some true) else(some (!decide (x.f1=y.f1)))):Option Bool)=some (!decide (x=y)):=by
    obtain⟨a,b⟩:=x;obtain⟨c,d⟩:=y;by_cases h1:a=c<;>by_cases h2:b=d<;>simp[h1,h2]
   rw[e,sb];by_cases c:x=y
   ·subst c
    rw[if_neg (by simp),ih (pa++[x]) sb' (pb++[x]) (i+1) (by simp[h1]) (by simp[h2]) (by simp[h3]) (by simp;omega)];by_cases c2:sa=sb'
    ·rw[if_pos c2,if_pos (by rw[c2])]
    ·rw[if_neg c2,if_neg (by simp[c2])]
   ·rw[if_pos (by simp[c]),if_neg (by simp[c])]
theorem same9_eq (a b:List Zf) (ha:a.length<1000000000000) (hs:∀ s∈a,s.f1.f6.length<1000000000000∧s.f1.f7.length<1000000000000):Z25.f a b=some (decide (a=b)):=by
 unfold Z25.f;by_cases hl:a.length=b.length
 ·rw[if_neg (by simp;omega),smp_l0' a b hl ha hs a [] b [] 0 rfl rfl rfl rfl,sb]
  by_cases c:a=b
  ·rw[if_pos c,decide_eq_true c]
  ·rw[if_neg c,decide_eq_false c]
 ·rw[if_pos (by simp;omega),decide_eq_false (fun h=>hl (by rw[h]))]
variable {b:List Int}
structure HOk (h:Z1c):Prop where
 fits:Fits h
 pos:h.f6.length≤512
 neg:h.f7.length≤512
theorem HOk.zero:HOk (⟨0,0,0,0,0,0,[],[]⟩:Z1c):=⟨⟨by decide,by decide,by decide,by decide,by decide,by decide,by simp,by simp⟩,by simp,by simp⟩
end Go.Proofs.Ytpoihfcehejgfaa.PvGP
namespace Go.Proofs.Ytpoihfcehejgfaa.PvGP
open Go Go.Pv Go.Pv.GS Go.IntKind
structure SOk (s:Zf):Prop where
 v:Z8b s.f1
 f:Fits s.f1
 t:0≤s.f0∧s.f0≤1099511627776
def timeOK (t:Int):Bool:=decide (0≤t∧t≤1099511627776)
open Classical in
noncomputable def sok (s:Zf):Bool:=timeOK s.f0&&decide (Z8b s.f1)
def aft (p:Option Zf) (s:Zf):Bool:=match p with
 | none=>true
 | some q=>decide (q.f0<s.f0)
noncomputable def good (p:Option Zf) (s:Zf):Bool:=sok s&&aft p s
noncomputable def rise:Option Zf→List Zf→Bool
 | _,[]=>true
 | p,s::l=>good p s&&rise (some s) l
def lst:Option Zf→List Zf→Option Zf
 | p,[]=>p
 | _,s::l=>lst (some s) l
theorem lst_app (a b:List Zf):∀ p,lst p (a++b)=lst (lst p a) b:=by
 induction a with
 | nil=>intro p;rfl
 | cons s a ih=>intro p;exact ih _
theorem lst_snoc (a:List Zf) (s:Zf) (p:Option Zf):lst p (a++[s])=some s:=by rw[lst_app];rfl
def flow (b:Bool):Bool ⊕ Unit:=match b with
 | true=>.inr ()
 | false=>.inl false
theorem rtime (t:Int):Z2q.f t=some (timeOK t):=by
 unfold Z2q.f timeOK;by_cases h:t≥0
 ·rw[if_pos (decide_eq_true h),sb];congr 1;apply Bool.eq_iff_iff.2;simp;omega
 ·rw[if_neg (by simpa using h),sb];congr 1;rw[decide_eq_false (by omega)]
theorem rris_l0 (l:List Zf) (hl:l.length<1000000000000000) (hf:∀ s∈l,Fits s.f1∧s.f1.f6.length<1000000000000000∧s.f1.f7.length<1000000000000000):∀ (suf pre:List Zf) (i:Int),l=pre++suf→i=(pre.length:Int)→Z0s.l0 l i=some (flow (rise (lst none pre) suf)):=by
 intro suf
 induction suf with
 | nil=>intro pre i h1 hi;rw[Z0s.l0,if_neg (by rw[h1];simp[hi])];rfl
 | cons s suf ih =>
  intro pre i h1 hi;have hlen:l.length=pre.length+(suf.length+1):=by rw[h1];simp
  have hs:=hf s (by rw[h1];simp);have step:((((at? l i)>>=fun b6847=>(Z2q.f b6847.f0)>>=fun t6850=>if(!t6850)=true then(some true) else((Z0b.f b6847.f1)>>=fun t6853=>if(t6853 != (0:Int))=true then(some true) else(if(decide (i>(0:Int)))=true then((at? l (i64.wrap (i-(1:Int))))>>=fun b6857=>some (decide (b6847.f0≤b6857.f0))) else(some false)))):Option (Bool)))=some (!good (lst none pre) s):=by
   rw[Z1i h1 hi,sb,rtime,sb];cases ht:timeOK s.f0 with
   | false=>rw[if_pos (show(!false)=true from rfl)];simp[good,sok,ht]
   | true =>
    rw[if_neg (by simp)];obtain⟨e,_,e1,e3⟩:=check_same s.f1 hs.1 hs.2.1 hs.2.2;rw[e1,sb];by_cases he:e=0
    case neg =>
     rw[if_pos (by simpa using he)];have:¬ Z8b s.f1:=fun h=>he (e3.2 h);simp[good,sok,this]
    rw[if_neg (by simpa using he)];have hv:=e3.1 he;rcases List.eq_nil_or_concat pre with rfl | ⟨Q,q,rfl⟩
    ·rw[if_neg (by simp[hi])]
     simp[good,sok,ht,hv,lst,aft]
    ·rw[List.concat_eq_append] at *
     have hi3:i=(Q.length:Int)+1:=by rw[hi];simp
     simp only[List.length_append,List.length_singleton] at hlen;rw[if_pos (decide_eq_true (by omega)),Z07 (n:=i-1) (by omega) (by omega)];rw[show at? l (i-1)=some q from Z1i (pre:=Q) (suf:=s::suf) (by rw[h1];simp) (by omega),sb,lst_snoc];simp only[good,sok,ht,hv,aft,Bool.true_and,decide_true];congr 1;by_cases c:q.f0<s.f0
     ·rw[decide_eq_false (by omega),decide_eq_true c];rfl
     ·rw[decide_eq_true (by omega),decide_eq_false c];rfl
  have hst:=step;have hr:rise (lst none pre) (s::suf)=(good (lst none pre) s&&rise (some s) suf):=rfl;rw[hr];cases g:good (lst none pre) s with
  | false =>
   rw[g] at hst;rw[Z0s.l0,if_pos (by simp;omega),hst,sb,if_pos (show(!false)=true from rfl)];rfl
  | true =>
   rw[g] at hst;rw[Z0s.l0,if_pos (by simp;omega),hst,sb,if_neg (show ¬ (!true)=true by simp),Z07 (n:=i+1) (by omega) (by omega),ih (pre++[s]) (i+1) (by simp[h1]) (by simp;omega),lst_snoc,Bool.true_and]
theorem rris_eq (l:List Zf) (hl:l.length<1000000000000000) (hf:∀ s∈l,Fits s.f1∧s.f1.f6.length<1000000000000000∧s.f1.f7.length<1000000000000000):Z0s.f l=some (rise none l):=by
 unfold Z0s.f;rw[rris_l0 l hl hf l [] 0 rfl rfl,sb];show(match flow (rise none l) with | .inl rr=>(some rr) | .inr _=>(some true))=some (rise none l);obtain⟨b,hb⟩:∃ b,rise none l=b:=⟨_,rfl⟩
 rw[hb];cases b<;>rfl
def keyB (s:ByteArray):Bool:=match Z0m.f s with
 | some (_,e)=>e==0
 | none=>false
theorem key_iff (s:ByteArray) (hs:s.size≤2000000):keyB s=true↔∃ x,chkC x=0∧L s=keyL x:=by
 unfold keyB;obtain⟨x,e,h,h2⟩:=fromB_spec s hs;rw[h];dsimp only;rcases h2 with ⟨rfl,h3,h4⟩ | ⟨rfl,_,h3⟩
 ·simp;exact⟨x,h3,h4⟩
 ·simp;exact h3
theorem rk_l0:∀ (n:Nat) (s:ByteArray) (acc:List ByteArray),s.size≤n→s.size≤2000000→acc.length+s.size≤4000000 →
  (Z11.l0 s acc=some (.inl false)∧∀ ws:List ByteArray,(∀ w∈ws,w.size<256)→L s≠Z3h ws)∨(∃ ws,Z11.l0 s acc=some (.inr (acc++ws))∧(∀ w∈ws,w.size<256)∧L s=Z3h ws∧ws.length≤s.size):=by
 intro n
 induction n with
 | zero =>
  intro s acc hn h5 ha;rw[Z11.l0,if_neg (by rw[decide_eq_true_eq];omega)];have:L s=[]:=List.length_eq_zero_iff.1 (by rw[Z39];omega);exact .inr ⟨[],by simp,by simp,by rw[this];rfl,by simp⟩
 | succ n ih =>
  intro s acc hn h5 ha;by_cases h0:0<s.size
  case neg =>
   rw[Z11.l0,if_neg (by rw[decide_eq_true_eq];omega)];have:L s=[]:=List.length_eq_zero_iff.1 (by rw[Z39];omega);exact .inr ⟨[],by simp,by simp,by rw[this];rfl,by simp⟩
  obtain⟨c,r,hc,hr,hbt⟩:=L_cons_of h0;have hcl:=c.toNat_lt;have hword:∀ ws:List ByteArray,(∀ w∈ws,w.size<256)→L s=Z3h ws→∃ w ws',ws=w::ws'∧w.size=c.toNat∧r=L w++Z3h ws':=fun ws hw e=>by
   cases ws with
   | nil=>rw[hc] at e;simp[Z3h] at e
   | cons w ws' =>
    rw[hc,Z2f,word,List.cons_append,List.cons.injEq] at e;refine⟨w,ws',rfl,?_,e.2⟩;have:=hw w (by simp);rw[e.1,UInt8.toNat_ofNat',Nat.mod_eq_of_lt (by omega)]
  rw[Z11.l0,if_pos (by simp;omega),chkB (by omega),hbt,Z07 (n:=(c.toNat:Int)) (by omega) (by omega),Z07 (n:=(c.toNat:Int)+1) (by omega) (by omega)];by_cases hle:(c.toNat:Int)+1>(s.size:Int)
  ·rw[if_pos (by simpa using hle)]
   refine .inl ⟨rfl,fun ws hw e => ?_⟩;obtain⟨w,ws',_,h1,h2⟩:=hword ws hw e;have:=congrArg List.length h2;rw[List.length_append,Z39] at this;omega
  ·have e1:Int.toNat ((c.toNat:Int)+1)=1+c.toNat:=by omega
   have l1:L (s.extract (Int.toNat 1) (Int.toNat ((c.toNat:Int)+1)))=r.take c.toNat:=by
    rw[Z76,e1,hc];simp
   have l2:L (s.extract (Int.toNat ((c.toNat:Int)+1)) (Int.toNat (s.size:Int)))=r.drop c.toNat:=by
    rw[Z76,e1,hc,Int.toNat_natCast,Nat.add_comm 1 c.toNat,List.drop_succ_cons,List.take_of_length_le (by simp;omega)]
   have s1:(s.extract (Int.toNat 1) (Int.toNat ((c.toNat:Int)+1))).size=c.toNat:=by rw[← Z39,l1,List.length_take];omega
   have s2:(s.extract (Int.toNat ((c.toNat:Int)+1)) (Int.toNat (s.size:Int))).size=s.size-1-c.toNat:=by rw[← Z39,l2,List.length_drop];omega
   rw[if_neg (by simpa using hle),chkB (by omega),chkB (by simp;omega),chkB (by omega)];generalize s.extract (Int.toNat 1) (Int.toNat ((c.toNat:Int)+1))=w0 at *;generalize s.extract (Int.toNat ((c.toNat:Int)+1)) (Int.toNat (s.size:Int))=rest at *;rcases ih rest (acc++[w0]) (by omega) (by omega) (by simp;omega) with ⟨g1,g2⟩ | ⟨ws,g1,g2,g3,g4⟩
   ·refine .inl ⟨g1,fun ws hw e => ?_⟩
    obtain⟨w,ws',rfl,h1,h2⟩:=hword ws hw e;refine g2 ws' (fun z hz=>hw z (by simp[hz])) ?_;rw[l2,h2,← h1,← Z39,List.drop_left]
   ·refine .inr ⟨w0::ws,by rw[g1];simp,fun z hz => ?_,?_,by simp;omega⟩
    ·rcases List.mem_cons.1 hz with rfl | hz
     ·omega
     ·exact g2 z hz
    ·rw[Z2f        ,word,← g3,l1,l2,s1,hc]
     have:UInt8.ofNat c.toNat=c:=UInt8.ofNat_toNat;rw[this,List.cons_append,List.take_append_drop]
theorem rk_l1 (ws:List ByteArray) (hl:ws.length≤4000000):∀ (m:Nat) (pre suf:List ByteArray) (o:List Z0q) (i:Int),suf.length=2*m→ws=pre++suf→i=(pre.length:Int)→o.length≤pre.length→Z11.l1 ws o i=some (o++Z40 suf):=by
 intro m
 induction m with
 | zero =>
  intro pre suf o i hm h1 hi ho;have:suf=[]:=List.length_eq_zero_iff.1 hm;subst this;have hlen:ws.length=pre.length:=by rw[h1];simp
  rw[Z11.l1,Z07 (n:=i+1) (by omega) (by omega),if_neg (by simp;omega)];simp[Z40]
 | succ m ih =>
  intro pre suf o i hm h1 hi ho
  match suf,hm with
  | a::b::suf,hm =>
   have hlen:ws.length=pre.length+(suf.length+2):=by rw[h1];simp
   rw[Z11.l1,Z07 (n:=i+1) (by omega) (by omega),if_pos (by simp;omega),Z1i h1 hi,sb,Z1i (pre:=pre++[a]) (suf:=suf) (x:=b) (by rw[h1];simp) (by simp;omega),sb,chkB (by simp;omega),Z07 (n:=i+2) (by omega) (by omega)];rw[ih (pre++[a,b]) suf _ (i+2) (by simp at hm;omega) (by rw[h1];simp) (by simp;omega) (by simp;omega),Z40];simp
theorem rkey15 (s:ByteArray) (hs:s.size≤2000000):Z11.f s=some (keyB s):=by
 have hiff:=key_iff s hs;have flat256:∀ x',chkC x'=0→∀ w∈Z3u x',w.size<256:=fun x' h w hw=>by
  obtain⟨z,hz,hw⟩:=List.mem_flatMap.1 hw;have:=Z8x (chkC_zero h).2 z hz;simp at hw;rcases hw with rfl | rfl
  ·have:=this.1;omega
  ·have:=this.2;omega
 have no:(¬ ∃ x,chkC x=0∧L s=keyL x)→keyB s=false:=fun h=>by
  cases e:keyB s with
  | false=>rfl
  | true=>exact absurd (hiff.1 e) h
 unfold Z11.f;rcases rk_l0 s.size s [] (Nat.le_refl _) hs (by simp;omega) with ⟨g1,g2⟩ | ⟨ws,g1,g2,g3,g4⟩
 ·rw[g1,sb]
  dsimp only;rw[no (fun⟨x',h,e⟩=>g2 (Z3u x') (flat256 x' h) (by rw[e,Z4c]))]
 ·rw[g1,sb,List.nil_append]
  dsimp only;have ht:Int.tmod (ws.length:Int) 2=((ws.length % 2:Nat):Int):=by rw[Int.tmod_eq_emod_of_nonneg (by omega)];omega
  have huniq:∀ x',chkC x'=0→L s=keyL x'→ws=Z3u x':=fun x' h e=>Z78 g2 (flat256 x' h) (by rw[← g3,e,Z4c])
  have heven:∀ x':List Z0q,(Z3u x').length % 2=0:=fun x'=>by
   induction x' with
   | nil=>rfl
   | cons z x' ih =>
    have:Z3u (z::x')=z.f0::z.f1::Z3u x':=by simp[Z3u]
    rw[this];simp;omega
  rw[ht];by_cases hodd:ws.length % 2=1
  ·rw[if_pos (by simp;omega),no (fun⟨x',h,e⟩=>by
    have:=huniq x' h e;have h2:=heven x';rw[← this] at h2;omega)]
  ·rw[if_neg (by simp;omega),rk_l1 ws (by omega) (ws.length / 2) [] ws [] 0 (by omega) rfl rfl (by simp),sb,List.nil_append,rcheck,sb]
   by_cases hc:chkC (Z40 ws)=0
   ·rw[hc,hiff.2 ⟨Z40 ws,hc,by rw[g3,Z4c,Z7o ws (by omega)]⟩];rfl
   ·rw[no (fun⟨x',h,e⟩=>by
     have:=huniq x' h e;rw[this,Z7h] at hc;exact hc h)]
    congr 1;simpa using hc
structure RowB (r:Z2):Prop where
 k:r.f0.size≤2000000
 n:r.f1.length≤100000000
 f:∀ s∈r.f1,Fits s.f1∧s.f1.f6.length<1000000000000000∧s.f1.f7.length<1000000000000000
theorem rise_up:∀ (l:List Zf) (p:Option Zf),rise p l=true→l.Pairwise (fun a b=>a.f0<b.f0)∧∀ q,p=some q→∀ x∈l,q.f0<x.f0
 | [],p,_=>⟨List.Pairwise.nil,by simp⟩
 | s::l,p,h=>by
  simp only[rise,Bool.and_eq_true,good] at h;obtain⟨⟨h1,h2⟩,h3⟩:=h;obtain⟨g1,g2⟩:=rise_up l (some s) h3;refine⟨List.pairwise_cons.2 ⟨g2 s rfl,g1⟩,fun q hq x hx => ?_⟩;subst hq;have h4:q.f0<s.f0:=by simpa[aft] using h2
  rcases List.mem_cons.1 hx with rfl | hx
  ·exact h4
  ·have:=g2 s rfl x hx;omega
theorem rise_ok:∀ (l:List Zf) (p:Option Zf),rise p l=true→∀ s∈l,sok s=true
 | [],_,_,_,h=>by simp at h
 | s::l,p,h,x,hx=>by
  simp only[rise,Bool.and_eq_true,good] at h;rcases List.mem_cons.1 hx with rfl | hx
  ·exact h.1.1
  ·exact rise_ok l _ h.2 x hx
def behK (p:Option ByteArray) (k:ByteArray):Bool:=match p with
 | none=>true
 | some q=>bl q k
def lastK (pre:List Z2):Option ByteArray:=pre.getLast?.map (·.f0)
theorem Za4 (pre:List Z2) (r:Z2):lastK (pre++[r])=some r.f0:=by simp[lastK]
structure RowOK (lo hi:Int) (r:Z2):Prop where
 k:keyB r.f0=true
 ne:r.f1≠[]
 up:rise none r.f1=true
 at_:∀ s∈r.f1,lo≤s.f0∧s.f0<hi
structure BlkOK (b:Z3):Prop where
 m:RightM b.f0
 ne:b.f1≠[]
 len:b.f1.length≤64
 rows:∀ r∈b.f1,RowOK b.f0.f0 b.f0.f1 r
 up:b.f1.Pairwise fun r q=>bl r.f0 q.f0=true
def smpN (l:List Zf):Nat:=(l.map fun s=>s.f1.f6.length+s.f1.f7.length+1).sum
def rowN (r:Z2):Nat:=r.f0.size+1+smpN r.f1
def Z3i (l:List Z2):Nat:=(l.map rowN).sum
theorem smpN_le:∀ (l:List Zf),(∀ s∈l,s.f1.f6.length≤1048576∧s.f1.f7.length≤1048576)→smpN l≤2097153*l.length
 | [],_=>by simp[smpN]
 | s::l,h=>by
  have h1:=h s (by simp);have h2:=smpN_le l (fun x hx=>h x (by simp[hx]));simp only[smpN,List.map_cons,List.sum_cons,List.length_cons] at *;omega
theorem len_smpN:∀ (l:List Zf),l.length≤smpN l
 | []=>by simp[smpN]
 | s::l=>by
  have h2:=len_smpN l;simp only[smpN,List.map_cons,List.sum_cons,List.length_cons] at *;omega
theorem rowN_le {r:Z2} (h:Z2s r):rowN r≤2199024304129+1048577:=by
 have h1:=smpN_le r.f1 (fun s hs=>⟨((h.r1.2 s hs).r1.r6).1,((h.r1.2 s hs).r1.r7).1⟩);have h2:=h.r1.1;have h3:=h.r0;have:2097153*r.f1.length≤2097153*1048576:=Nat.mul_le_mul_left _ h2;unfold rowN;omega
theorem lightN_le:∀ (l:List Z2),(∀ r∈l,Z2s r)→Z3i l≤2200000000000*l.length
 | [],_=>by simp[Z3i]
 | r::l,h=>by
  have h1:=rowN_le (h r (by simp));have h2:=lightN_le l (fun x hx=>h x (by simp[hx]));simp only[Z3i,List.map_cons,List.sum_cons,List.length_cons] at *;omega
theorem li_l1 (l:List Z2) (r:Z2) (j:Int) (hl:r.f1.length≤1048576) (hb:∀ s∈r.f1,s.f1.f6.length≤1048576∧s.f1.f7.length≤1048576):∀ (suf pre:List Zf) (x:Nat) (i:Int),r.f1=pre++suf→i=(pre.length:Int)→x+smpN suf<4000000000000000000 →
  Z0w.l1 l r j (x:Int) i=some ((x+smpN suf:Nat):Int):=by
 intro suf
 induction suf with
 | nil=>intro pre x i h1 hi _;rw[Z0w.l1,if_neg (by rw[h1];simp[hi])];simp[smpN]
 | cons s suf ih =>
  intro pre x i h1 hi hx;have hlen:r.f1.length=pre.length+(suf.length+1):=by rw[h1];simp
  have hs:=hb s (by rw[h1];simp);have e:smpN (s::suf)=s.f1.f6.length+s.f1.f7.length+1+smpN suf:=by simp[smpN]
  rw[e] at hx ⊢;rw[Z0w.l1,if_pos (by simp;omega),Z1i h1 hi,sb,Z07 (n:=(s.f1.f6.length:Int)+(s.f1.f7.length:Int)) (by omega) (by omega),Z07 (n:=(s.f1.f6.length:Int)+(s.f1.f7.length:Int)+1) (by omega) (by omega),Z07 (n:=(x:Int)+_) (by omega) (by omega),Z07 (n:=i+1) (by omega) (by omega)];have:=ih (pre++[s]) (x+(s.f1.f6.length+s.f1.f7.length+1)) (i+1) (by simp[h1]) (by simp;omega) (by omega);rw[show(x:Int)+((s.f1.f6.length:Int)+(s.f1.f7.length:Int)+1)=((x+(s.f1.f6.length+s.f1.f7.length+1):Nat):Int) by omega,this];congr 2;omega
theorem li_l0 (l:List Z2) (hl:l.length≤1048576) (hR:∀ r∈l,Z2s r):∀ (suf pre:List Z2) (x:Nat) (i:Int),l=pre++suf→i=(pre.length:Int)→x+Z3i suf<4000000000000000000→Z0w.l0 l (x:Int) i=some ((x+Z3i suf:Nat):Int):=by
 intro suf
 induction suf with
 | nil=>intro pre x i h1 hi _;rw[Z0w.l0,if_neg (by rw[h1];simp[hi])];simp[Z3i]
 | cons r suf ih =>
  intro pre x i h1 hi hx;have hlen:l.length=pre.length+(suf.length+1):=by rw[h1];simp
  have hr:=hR r (by rw[h1];simp);have hk:=hr.r0;have e:Z3i (r::suf)=rowN r+Z3i suf:=by simp[Z3i]
  have e2:rowN r=r.f0.size+1+smpN r.f1:=rfl;rw[e,e2] at hx;rw[e,e2,Z0w.l0,if_pos (by simp;omega),Z1i h1 hi,sb,Z07 (n:=(r.f0.size:Int)+1) (by omega) (by omega),Z07 (n:=(x:Int)+_) (by omega) (by omega)];have:=li_l1 l r i hr.r1.1 (fun s hs=>⟨((hr.r1.2 s hs).r1.r6).1,((hr.r1.2 s hs).r1.r7).1⟩) r.f1 [] (x+(r.f0.size+1)) 0 rfl rfl (by omega);rw[show(x:Int)+((r.f0.size:Int)+1)=((x+(r.f0.size+1):Nat):Int) by omega,this,sb,Z07 (n:=i+1) (by omega) (by omega)];rw[ih (pre++[r]) (x+(r.f0.size+1)+smpN r.f1) (i+1) (by simp[h1]) (by simp;omega) (by omega)];congr 2;omega
theorem light16 (l:List Z2) (hl:l.length≤1048576) (hR:∀ r∈l,Z2s r):Z0w.f l=some (decide (Z3i l≤1200)):=by
 have h:=lightN_le l hR;have h2:2200000000000*l.length≤2200000000000*1048576:=Nat.mul_le_mul_left _ hl;unfold Z0w.f;have e:=li_l0 l hl hR l [] 0 0 rfl rfl (by omega);rw[show((0:Nat):Int)=(0:Int) from rfl] at e;rw[e,sb,Nat.zero_add];congr 1;by_cases c:Z3i l≤1200
 ·rw[decide_eq_true c,decide_eq_true (by omega)]
 ·rw[decide_eq_false c,decide_eq_false (by omega)]
theorem Z6q:∀ (l:List Z2),l.length≤Z3i l∧(l.map fun r=>r.f1.length).sum≤Z3i l
 | []=>by simp[Z3i]
 | r::l=>by
  have h:=Z6q l;have h2:=len_smpN r.f1;simp only[Z3i,rowN,List.map_cons,List.sum_cons,List.length_cons] at *;omega
theorem rowB_of {l:List Z2} (hR:∀ r∈l,Z2s r) (hl:Z3i l≤1200):∀ r∈l,RowB r:=fun r hr=>by
 have h:=Z6q l;have q:=hR r hr;exact⟨by have:=q.r0;omega,by have:=q.r1.1;omega,fun s hs=>⟨fits_of (q.r1.2 s hs).r1,by have:=(q.r1.2 s hs).r1.r6.1;omega,by have:=(q.r1.2 s hs).r1.r7.1;omega⟩⟩
def ofBlk (b:Z3):Z32:=⟨b.f0.f0,b.f0.f1,b.f0.f2,b.f1⟩
theorem fr_l0_16 (b:Z3) (hl:b.f1.length≤100000000):∀ (suf pre:List Z2) (i:Int),b.f1=pre++suf→i=(pre.length:Int)→Z1s.l0 b pre i=some b.f1:=by
 intro suf
 induction suf with
 | nil=>intro pre i h1 hi;rw[Z1s.l0,if_neg (by rw[h1];simp[hi]),h1];simp
 | cons r suf ih =>
  intro pre i h1 hi;have hlen:b.f1.length=pre.length+(suf.length+1):=by rw[h1];simp
  rw[Z1s.l0,if_pos (by simp;omega),Z1i h1 hi,sb,chkB (by simp;omega),Z07 (by omega) (by omega)];exact ih (pre++[r]) (i+1) (by simp[h1]) (by simp;omega)
theorem fr16 (b:Z3) (hl:b.f1.length≤100000000):Z1s.f b=some (ofBlk b):=by
 unfold Z1s.f;rw[fr_l0_16 b hl b.f1 [] 0 rfl rfl,sb];rfl
theorem same16_l0 (a:List Z2) (hl:a.length≤100000000) (hs:∀ r∈a,r.f1.length<1000000000000∧∀ s∈r.f1,s.f1.f6.length<1000000000000∧s.f1.f7.length<1000000000000):∀ (suf pre:List Z2) (i:Int),a=pre++suf→i=(pre.length:Int)→Z1d.l0 a a i=some (.inr ()):=by
 intro suf
 induction suf with
 | nil=>intro pre i h1 hi;rw[Z1d.l0,if_neg (by rw[h1];simp[hi])]
 | cons r suf ih =>
  intro pre i h1 hi;have hlen:a.length=pre.length+(suf.length+1):=by rw[h1];simp
  have hr:=hs r (by rw[h1];simp);rw[Z1d.l0,if_pos (by simp;omega),Z1i h1 hi,sb,sb,if_neg (by simp),same9_eq r.f1 r.f1 hr.1 hr.2,sb,decide_eq_true rfl,sb,if_neg (by simp),Z07 (by omega) (by omega)];exact ih (pre++[r]) (i+1) (by simp[h1]) (by simp;omega)
theorem same16 (a:List Z2) (hl:a.length≤100000000) (hs:∀ r∈a,r.f1.length<1000000000000∧∀ s∈r.f1,s.f1.f6.length<1000000000000∧s.f1.f7.length<1000000000000):Z1d.f a a=some true:=by
 unfold Z1d.f;rw[if_neg (by simp),same16_l0 a hl hs a [] 0 rfl rfl,sb]
noncomputable def Z85:Option ByteArray→List Z2→Bool
 | _,[]=>true
 | p,r::l=>(keyB r.f0&&behK p r.f0&&rise none r.f1 && !r.f1.isEmpty)&&Z85 (some r.f0) l
theorem rows16_l0 (l:List Z2) (hl:l.length<1000000000) (hb:∀ r∈l,RowB r):∀ (suf pre:List Z2) (i:Int),l=pre++suf→i=(pre.length:Int)→Z24.l0 l i=some (if Z85 (lastK pre) suf=true then .inr () else .inl false):=by
 intro suf
 induction suf with
 | nil=>intro pre i h1 hi;rw[Z24.l0,if_neg (by rw[h1];simp[hi])];rfl
 | cons r suf ih =>
  intro pre i h1 hi;have hlen:l.length=pre.length+(suf.length+1):=by rw[h1];simp
  have hr:=hb r (by rw[h1];simp);have hlast:(((Z0s.f r.f1)>>=fun t524=>if(!t524)=true then(some true) else(some ((r.f1.length:Int)==(0:Int)))):Option Bool)=some (!(rise none r.f1 && !r.f1.isEmpty)):=by
   rw[rris_eq r.f1 (by have:=hr.n;omega) hr.f,sb];cases rise none r.f1 with
   | false=>rfl
   | true =>
    rw[if_neg (by simp)]
    match r.f1 with
    | []=>rfl
    | a::m=>congr 1
  have hstep:((if(decide (i>(0:Int)))=true then((at? l (i64.wrap (i-(1:Int))))>>=fun b520=>if(!Op.bytesLess b520.f0.toList r.f0.toList)=true then(some true) else((Z0s.f r.f1)>>=fun t524=>if(!t524)=true then(some true) else(some ((r.f1.length:Int)==(0:Int))))) else((Z0s.f r.f1)>>=fun t527=>if(!t527)=true then(some true) else(some ((r.f1.length:Int)==(0:Int))))):Option Bool)=some (!(behK (lastK pre) r.f0&&(rise none r.f1 && !r.f1.isEmpty))):=by
   rw[hlast];rcases List.eq_nil_or_concat pre with rfl | ⟨Q,q,rfl⟩
   ·rw[if_neg (by simp[hi])];rfl
   ·rw[List.concat_eq_append] at *
    have hi3:i=(Q.length:Int)+1:=by rw[hi];simp
    rw[if_pos (decide_eq_true (by omega)),Z07 (n:=i-1) (by omega) (by omega),Za4];rw[show at? l (i-1)=some q from Z1i (pre:=Q) (suf:=r::suf) (by rw[h1];simp) (by omega),sb];show(if(!bl q.f0 r.f0)=true then _ else _)=some (!(bl q.f0 r.f0&&_));cases bl q.f0 r.f0 with
    | false=>rfl
    | true=>rw[if_neg (by simp),Bool.true_and]
  have e:Z85 (lastK pre) (r::suf)=((keyB r.f0&&(behK (lastK pre) r.f0&&(rise none r.f1 && !r.f1.isEmpty)))&&Z85 (some r.f0) suf):=by rw[Z85];simp only[Bool.and_assoc]
  rw[Z24.l0,if_pos (by simp;omega),Z1i h1 hi,sb,rkey15 r.f0 hr.k,sb,hstep,e];cases keyB r.f0 with
  | false=>rfl
  | true =>
   rw[if_neg (by simp),sb];cases (behK (lastK pre) r.f0&&(rise none r.f1 && !r.f1.isEmpty)) with
   | false=>rfl
   | true =>
    rw[if_neg (by simp),Z07 (by omega) (by omega),ih (pre++[r]) (i+1) (by simp[h1]) (by simp;omega),Za4];rfl
theorem rows16 (l:List Z2) (hl:l.length<1000000000) (hb:∀ r∈l,RowB r):Z24.f l=some (Z85 none l&&decide (l.length≤64)):=by
 unfold Z24.f;rw[rows16_l0 l hl hb l [] 0 rfl rfl,sb];show(match (if Z85 none l=true then(.inr ():Bool ⊕ Unit) else .inl false) with | .inl rr=>(some rr) | .inr _=>_)=_;cases Z85 none l with
 | false=>rfl
 | true =>
  rw[if_pos rfl,Bool.true_and];show some (decide _)=some (decide _);congr 1;by_cases c:l.length≤64
  ·rw[decide_eq_true c,decide_eq_true (by omega)]
  ·rw[decide_eq_false c,decide_eq_false (by omega)]
theorem rowsB_ok:∀ (l:List Z2) (p:Option ByteArray),Z85 p l=true→(∀ r∈l,keyB r.f0=true∧rise none r.f1=true∧r.f1≠[])∧l.Pairwise (fun r q=>bl r.f0 q.f0=true)∧∀ k,p=some k→∀ r∈l,bl k r.f0=true
 | [],p,_=>by simp
 | r::l,p,h=>by
  rw[Z85] at h;simp only[Bool.and_eq_true,Bool.not_eq_true',List.isEmpty_eq_false_iff] at h;obtain⟨⟨⟨⟨h1,h2⟩,h3⟩,h4⟩,h5⟩:=h;obtain⟨g1,g2,g3⟩:=rowsB_ok l _ h5;refine⟨fun x hx => ?_,List.pairwise_cons.2 ⟨fun x hx=>g3 _ rfl x hx,g2⟩,fun k hk x hx => ?_⟩
  ·rcases List.mem_cons.1 hx with rfl | hx
   ·exact⟨h1,h3,h4⟩
   ·exact g1 x hx
  ·subst hk
   have hb:bl k r.f0=true:=h2;rcases List.mem_cons.1 hx with rfl | hx
   ·exact hb
   ·exact Z71 _ _ _ hb (g3 _ rfl x hx)
end Go.Proofs.Ytpoihfcehejgfaa.PvGP
