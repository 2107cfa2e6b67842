import Derived.Test.YtlclecehlekjoaaGreatPxChunkCuts12
set_option linter.unusedVariables false
set_option linter.unusedSimpArgs false
namespace Go.Proofs.YtlclecehlekjoaaGreat.PvGK
open Go Go.Pv Go.Pv.GS Go.IntKind
def blen:Nat→Nat
 | 0=>0
 | n+1=>blen ((n+1) / 2)+1
decreasing_by omega
def cls (k:Nat):Nat:=if k≤0 then 0 else if k≤3 then 1 else if k≤7 then 2 else if k≤12 then 3 else if k≤20 then 4 else if k≤32 then 5 else 6
def wid:Nat→Nat
 | 0=>0 | 1=>3 | 2=>7 | 3=>12 | 4=>20 | 5=>32 | _=>64
def cnt2 (n:Nat):List Bool:=List.replicate (cls (blen n)) true++((if cls (blen n)<6 then [false] else [])++nb n (wid (cls (blen n))))
end Go.Proofs.YtlclecehlekjoaaGreat.PvGK
set_option linter.unusedVariables false
set_option linter.unusedSimpArgs false
namespace Go.Proofs.YtlclecehlekjoaaGreat.PvGK
open Go Go.Pv Go.Pv.GS Go.IntKind
structure Src (b:List Int):Prop where
 byte:∀ x∈b,Byte x
 len:b.length<100000000
variable {b:List Int}
end Go.Proofs.YtlclecehlekjoaaGreat.PvGK
set_option linter.unusedVariables false
set_option linter.unusedSimpArgs false
set_option maxRecDepth 10000
namespace Go.Proofs.YtlclecehlekjoaaGreat.PvGK
open Go Go.Pv Go.Pv.GS Go.IntKind
def RSp:Bool→List Z24→Prop
 | _,[]=>True
 | true,s::r=>s.f0=0∧1≤s.f1∧s.f1≤512∧RSp false r
 | false,s::r=>1≤s.f0∧s.f0≤524288∧1≤s.f1∧s.f1≤512∧RSp false r
theorem RSp.len {f:Bool} {s:Z24} {r:List Z24} (h:RSp f (s::r)):1≤s.f1∧s.f1≤512∧RSp false r:=by
 cases f
 ·exact h.2.2
 ·exact h.2
def Ids (l:List Int):Prop:=Inc l∧∀ i∈l,-262144≤i∧i≤262144
theorem Ids.sm {l:List Int} (h:Ids l):Sm l:=fun i hi=>by have:=h.2 i hi;omega
end Go.Proofs.YtlclecehlekjoaaGreat.PvGK
set_option linter.unusedVariables false
set_option linter.unusedSimpArgs false
set_option maxRecDepth 10000
namespace Go.Proofs.YtlclecehlekjoaaGreat.PvGK
open Go Go.Pv Go.Pv.GS Go.IntKind
variable {b:List Int}
structure LOk (L:Zc):Prop where
 sp:SpOk L.f1
 first : -262144≤L.f0∧L.f0≤262144
 len:slen L.f1≤512
end Go.Proofs.YtlclecehlekjoaaGreat.PvGK
set_option linter.unusedVariables false
set_option linter.unusedSimpArgs false
namespace Go.Proofs.YtlclecehlekjoaaGreat.PvGK
open Go Go.Pv Go.Pv.GS Go.IntKind
def cnt (l:List Z2):Int:=(l.map (·.f1)).sum
theorem Z0i {l:List Z2} (h:Nn l):0≤cnt l:=Z4i (fun x hx=>by
 obtain⟨b,hb,rfl⟩:=List.mem_map.1 hx;exact h b hb)
theorem Z3c (b:Z2) (l:List Z2):cnt (b::l)=b.f1+cnt l:=by simp[cnt]
theorem Z5y (a b:List Z2):cnt (a++b)=cnt a+cnt b:=by simp[cnt]
theorem total_l1 (a0:List (List Z2)) (x769:Int) (l:List Z2) (hl:l.length<1000000000):∀ (suf pre:List Z2) (acc i:Int),l=pre++suf→i=(pre.length:Int)→U64 acc→(∀ b∈suf,U64 b.f1) →
  Z0c.l1 a0 l x769 acc i=some (if acc+cnt suf<18446744073709551616 then .inr (acc+cnt suf) else .inl (0,5)):=by
 intro suf
 induction suf with
 | nil =>
  intro pre acc i h1 hi ha hs
  subst h1
  rw[Z0c.l1,if_neg (by simp[hi])]
  simp[cnt,ha.2]
 | cons x suf ih =>
  intro pre acc i h1 hi ha hs
  have hx:=hs x (by simp)
  have hs':∀ y∈suf,U64 y.f1:=fun y hy=>hs y (by simp[hy])
  have hnn:0≤cnt suf:=Z0i (fun y hy=>(hs' y hy).1)
  have hlen:(l.length:Int)=pre.length+(suf.length+1):=by rw[h1];simp
  rw[Z0c.l1,if_pos (by simp;omega),Z10 h1 hi,sb,num_add2 ha hx,sb,Zl (by omega) (by omega),Z3c]
  by_cases hov:acc+x.f1<18446744073709551616
  ·rw[if_pos hov,if_neg (by simp),ih (pre++[x]) (acc+x.f1) (i+1) (by simp[h1]) (by simp;omega) ⟨by omega,hov⟩ hs',Int.add_assoc]
  ·rw[if_neg hov,if_pos (by simp),if_neg (by omega)]
theorem total_l0 (a0:List (List Z2)) (ha0:a0.length<1000000000):∀ (suf pre:List (List Z2)) (acc i:Int),a0=pre++suf→i=(pre.length:Int)→U64 acc→(∀ l∈suf,l.length<1000000000∧∀ b∈l,U64 b.f1) →
  Z0c.l0 a0 acc i=some (if acc+(suf.map cnt).sum<18446744073709551616 then .inr (acc+(suf.map cnt).sum) else .inl (0,5)):=by
 intro suf
 induction suf with
 | nil =>
  intro pre acc i h1 hi ha hs
  subst h1
  rw[Z0c.l0,if_neg (by simp[hi])]
  simp[ha.2]
 | cons x suf ih =>
  intro pre acc i h1 hi ha hs
  have hx:=hs x (by simp)
  have hs':∀ l∈suf,l.length<1000000000∧∀ b∈l,U64 b.f1:=fun y hy=>hs y (by simp[hy])
  have hx0:0≤cnt x:=Z0i (fun y hy=>(hx.2 y hy).1)
  have hnn:0≤(suf.map cnt).sum:=Z4i (fun y hy=>by
   obtain⟨l,hl,rfl⟩:=List.mem_map.1 hy;exact Z0i (fun y hy=>((hs' l hl).2 y hy).1))
  have hlen:(a0.length:Int)=pre.length+(suf.length+1):=by rw[h1];simp
  rw[Z0c.l0,if_pos (by simp;omega),Z10 h1 hi,sb,total_l1 a0 i x hx.1 x [] acc 0 rfl rfl ha hx.2,sb,Zl (by omega) (by omega),List.map_cons,List.sum_cons]
  by_cases hov:acc+cnt x<18446744073709551616
  ·rw[if_pos hov]
   simp only[]
   rw[ih (pre++[x]) (acc+cnt x) (i+1) (by simp[h1]) (by simp;omega) ⟨by omega,hov⟩ hs',Int.add_assoc]
  ·rw[if_neg hov,if_neg (by omega)]
theorem total3 (p n:List Z2) (z:Int) (hp:p.length<1000000000) (hn:n.length<1000000000) (hpU:∀ b∈p,U64 b.f1) (hnU:∀ b∈n,U64 b.f1) (hz:U64 z) :
  Z0c.f [p,n,[(⟨0,z⟩:Z2)]]=some (if cnt p+cnt n+z<18446744073709551616 then(cnt p+cnt n+z,0) else(0,5)):=by
 unfold Z0c.f
 rw[total_l0 [p,n,[(⟨0,z⟩:Z2)]] (by simp) [p,n,[(⟨0,z⟩:Z2)]] [] 0 0 rfl rfl (by omega) (by
  intro l hl
  simp only[List.mem_cons,List.not_mem_nil,or_false] at hl
  rcases hl with rfl | rfl | rfl
  ·exact⟨hp,hpU⟩
  ·exact⟨hn,hnU⟩
  ·exact⟨by simp,by simp;exact hz⟩),sb]
 have e:0+(([p,n,[(⟨0,z⟩:Z2)]]:List (List Z2)).map cnt).sum=cnt p+cnt n+z:=by simp[cnt];omega
 rw[e]
 by_cases h:cnt p+cnt n+z<18446744073709551616
 ·rw[if_pos h,if_pos h]
 ·rw[if_neg h,if_neg h]
theorem right_eq (s:Int):Zu.f s=some (decide (-4≤s)&&decide (s≤8)):=by
 unfold Zu.f
 rw[ifand];rfl
def Z0p (s:Int):Prop:=-4≤s∧s≤8
instance (s:Int):Decidable (Z0p s):=inferInstanceAs (Decidable (_∧_))
theorem Z4t {s:Int} (h:Z0p s):Zu.f s=some true:=by rw[right_eq];simp[h.1,h.2]
theorem right_F {s:Int} (h:¬ Z0p s):Zu.f s=some false:=by rw[right_eq];simp[Z0p] at h ⊢;omega
def stp (s:Int):Int:=2 ^ (8-s).toNat
theorem Z3t (s:Int):0<stp s:=by unfold stp;exact Int.pow_pos (by omega)
theorem stp_le {s:Int} (h:Z0p s):stp s≤4096:=by
 have h1:=h.1
 have h2:=h.2
 have:s = -4∨s = -3∨s = -2∨s = -1∨s=0∨s=1∨s=2∨s=3∨s=4∨s=5∨s=6∨s=7∨s=8:=by omega
 rcases this with rfl | rfl | rfl | rfl | rfl | rfl | rfl | rfl | rfl | rfl | rfl | rfl | rfl<;>decide
theorem shift_eq {s:Int} (h:Z0p s):min (Int.toNat (u64.wrap (i64.wrap ((8:Int)-s)))) 64=(8-s).toNat:=by
 have h1:=h.1
 have h2:=h.2
 rw[Zl (by omega) (by omega),Z7z (by omega) (by omega)];omega
theorem most_T {s:Int} (h:Z0p s):Z2w.f s=some (262144 / stp s):=by
 unfold Z2w.f Z2j.f
 rw[Z4t h,sb,if_neg (by simp),sb,chkB (u64_wrap _).1,shift_eq h,Int.fdiv_eq_ediv_of_nonneg _ (by exact Int.le_of_lt (Z3t s))]
 rfl
theorem units_T {s i:Int} (h:Z0p s) (hi : -1000000000000<i∧i<1000000000000):Z1c.f s i=some (i*stp s):=by
 unfold Z1c.f Z2j.f
 rw[Z4t h,sb,if_neg (by simp),sb,chkB (u64_wrap _).1,shift_eq h]
 have h1:=Z3t s
 have h2:=stp_le h
 have h3:i*stp s≤1000000000000*4096:=by
  by_cases h0:0≤i
  ·exact Int.mul_le_mul (by omega) h2 (by omega) (by omega)
  ·have:i*stp s≤0:=Int.mul_nonpos_of_nonpos_of_nonneg (by omega) (by omega);omega
 have h4 : -(1000000000000*4096)≤i*stp s:=by
  by_cases h0:0≤i
  ·have:0≤i*stp s:=Int.mul_nonneg h0 (by omega);omega
  ·have : -i*stp s≤1000000000000*4096:=Int.mul_le_mul (by omega) h2 (by omega) (by omega)
   rw[Int.neg_mul] at this;omega
 show some (i64.wrap (i*stp s))=_
 rw[Zl (by omega) (by omega)]
theorem Z8j (h:Ze):Z0l.l0 h 0=((Zq.f h h.f6)>>=fun t=>if(t != (0:Int))=true then some (.inl t) else(Zq.f h h.f7)>>=fun t=>if(t != (0:Int))=true then some (.inl t) else some (.inr ())):=by
 have w1:i64.wrap (0+1)=1:=by decide
 have w2:i64.wrap (1+1)=2:=by decide
 rw[Z0l.l0,if_pos (by decide),chkB (by omega),if_pos (by decide),sb,w1]
 congr 1
 funext t
 split
 ·rfl
 ·rw[         Z0l.l0,if_pos (by decide),chkB (by omega),if_neg (by decide),sb,w2]
  congr 1
  funext t
  split
  ·rfl
  ·rw[Z0l.l0,if_neg (by decide)]
structure Fits (h:Ze):Prop where
 kind:I64 h.f0
 schema:I64 h.f1
 zeroAt:I64 h.f2
 zero:U64 h.f3
 count:U64 h.f4
 sum:I64 h.f5
 pos:∀ b∈h.f6,I64 b.f0∧U64 b.f1
 neg:∀ b∈h.f7,I64 b.f0∧U64 b.f1
theorem fits_of {h:Ze} (r:RHist h):Fits h:=⟨r.r0,r.r1,r.r2,r.r3,r.r4,r.r5,fun b hb=>let q:=r.r6.2 b hb;⟨q.r0,q.r1⟩,fun b hb=>let q:=r.r7.2 b hb;⟨q.r0,q.r1⟩⟩
end Go.Proofs.YtlclecehlekjoaaGreat.PvGK
set_option linter.unusedVariables false
set_option linter.unusedSimpArgs false
namespace Go.Proofs.YtlclecehlekjoaaGreat.PvGK
open Go Go.Pv Go.Pv.GS Go.IntKind
theorem stp_dvd {s:Int} (h:Z0p s):262144 / stp s*stp s=262144:=by
 have h1:=h.1
 have h2:=h.2
 have:s = -4∨s = -3∨s = -2∨s = -1∨s=0∨s=1∨s=2∨s=3∨s=4∨s=5∨s=6∨s=7∨s=8:=by omega
 rcases this with rfl | rfl | rfl | rfl | rfl | rfl | rfl | rfl | rfl | rfl | rfl | rfl | rfl<;>decide
def InS (s i:Int):Prop:=-262144<i*stp s∧i*stp s≤262144
instance (s i:Int):Decidable (InS s i):=inferInstanceAs (Decidable (_∧_))
theorem inS_iff {s i:Int} (h:Z0p s):InS s i ↔ -(262144 / stp s)+1≤i∧i≤262144 / stp s:=by
 have hp:=Z3t s
 have hd:=stp_dvd h
 unfold InS
 generalize 262144 / stp s=q at *
 generalize stp s=st at *
 constructor
 ·rintro⟨h1,h2⟩
  constructor
  ·have : -q*st<i*st:=by rw[Int.neg_mul];omega
   have:=Int.lt_of_mul_lt_mul_right this (Int.le_of_lt hp);omega
  ·have:i*st≤q*st:=by omega
   exact Int.le_of_mul_le_mul_right this hp
 ·rintro⟨h1,h2⟩
  constructor
  ·have:=Int.mul_lt_mul_of_pos_right (show -q<i by omega) hp
   rw[Int.neg_mul] at this;omega
  ·have:=Int.mul_le_mul_of_nonneg_right h2 (Int.le_of_lt hp);omega
theorem Z2s {s i:Int} (hi:InS s i) : -262144<i∧i≤262144:=by
 have hp:=Z3t s
 obtain⟨h1,h2⟩:=hi
 constructor
 ·by_cases h:i ≤ -262144
  ·have:=Int.mul_le_mul_of_nonneg_right h (Int.le_of_lt hp)
   have h3 : -262144*stp s ≤ -262144*1:=by
    have:=Int.mul_le_mul_of_nonneg_left (show 1≤stp s by omega) (show(0:Int)≤262144 by omega)
    omega
   omega
  ·omega
 ·by_cases h:262144<i
  ·have:=Int.mul_le_mul_of_nonneg_right (show 262145≤i by omega) (Int.le_of_lt hp)
   have h3:=Int.mul_le_mul_of_nonneg_left (show 1≤stp s by omega) (show(0:Int)≤262145 by omega)
   omega
  ·omega
theorem in_T {s i:Int} (h:Z0p s):Z3b.f s i=some (decide (InS s i)):=by
 have hp:=Z3t s
 have hq:0≤262144 / stp s∧262144 / stp s≤262144:=⟨Int.ediv_nonneg (by omega) (by omega),Int.ediv_le_self _ (by omega)⟩
 unfold Z3b.f Z34.f
 rw[Z4t h,most_T h]
 simp only[sb,if_pos]
 rw[Zl (n:=0-_) (by omega) (by omega),Zl (by omega) (by omega),ifand,sb]
 congr 1
 rw[← Bool.decide_and,decide_eq_decide,inS_iff h]
 constructor<;>intro h<;>constructor<;>omega
theorem low_T {s i:Int} (h:Z0p s) (hi:InS s i):Z2y.f s i=some ((i-1)*stp s):=by
 have:=Z2s hi
 unfold Z2y.f
 rw[Zl (by omega) (by omega),units_T h (by omega)];rfl
theorem units_in {s i:Int} (h:Z0p s) (hi:InS s i):Z1c.f s i=some (i*stp s):=by
 have:=Z2s hi
 exact units_T h (by omega)
theorem Z3g (s:Int):Z06.f s=some (decide (Z0p s)):=by
 unfold Z06.f
 rw[ifand,← Bool.decide_and];rfl
theorem ref_step_l0 (s:Int):∀ (n:Nat) (x i:Int),i≤8→8-i=(n:Int) → -4≤i→0≤x→x*2 ^ n≤4096→Z22.l0 x i=some (x*2 ^ n):=by
 intro n
 induction n with
 | zero=>intro x i h1 h2 h3 h4 h5;rw[Z22.l0,if_neg (by simp;omega)];simp
 | succ n ih =>
  intro x i h1 h2 h3 h4 h5
  have e:x*2 ^ (n+1)=x*2*2 ^ n:=by rw[Int.pow_succ,Int.mul_assoc,Int.mul_comm 2]
  have hp:(0:Int)<2 ^ n:=Int.pow_pos (by omega)
  have hle:x*2≤4096:=by
   have:=Int.mul_le_mul_of_nonneg_left (show(1:Int)≤2 ^ n by omega) (show 0≤x*2 by omega)
   omega
  rw[Z22.l0,if_pos (by simp;omega),Zl (n:=x*2) (by omega) (by omega),Zl (n:=i+1) (by omega) (by omega),ih (x*2) (i+1) (by omega) (by omega) (by omega) (by omega) (by omega),e]
theorem ref_step {s:Int} (h:Z0p s):Z22.f s=some (stp s):=by
 unfold Z22.f
 have h1:=h.1
 have h2:=h.2
 rw[ref_step_l0 s (8-s).toNat 1 s h2 (by omega) h1 (by omega) (by rw[Int.one_mul];exact stp_le h)]
 simp[stp]
theorem Z3m {s i:Int} (h:Z0p s) (hi : -1000000000000<i∧i<1000000000000):Z00.f s i=some (i*stp s):=by
 unfold Z00.f
 rw[Z3g,sb,if_neg (by simp[h]),ref_step h,sb]
 have h1:=Z3t s
 have h2:=stp_le h
 have h3:i*stp s≤1000000000000*4096:=by
  by_cases h0:0≤i
  ·exact Int.mul_le_mul (by omega) h2 (by omega) (by omega)
  ·have:i*stp s≤0:=Int.mul_nonpos_of_nonpos_of_nonneg (by omega) (by omega);omega
 have h4 : -(1000000000000*4096)≤i*stp s:=by
  by_cases h0:0≤i
  ·have:0≤i*stp s:=Int.mul_nonneg h0 (by omega);omega
  ·have : -i*stp s≤1000000000000*4096:=Int.mul_le_mul (by omega) h2 (by omega) (by omega)
   rw[Int.neg_mul] at this;omega
 rw[Zl (by omega) (by omega)]
theorem ref_in {s i:Int} (h:Z0p s) (hi:I64 i):Z4b.f s i=some (decide (InS s i)):=by
 unfold Z4b.f
 rw[Z3g,sb,if_pos (by simp[h])]
 by_cases h1:i > -262144
 ·rw[if_pos (by simpa using h1)]
  by_cases h2:i≤262144
  ·rw[if_pos (by simpa using h2),Z3m       h (by omega),sb]
   by_cases h3:i*stp s > -262144
   ·rw[if_pos (by simpa using h3),sb,sb]
    congr 1
    rw[decide_eq_decide]
    exact⟨fun h=>⟨h3,h⟩,fun h=>h.2⟩
   ·rw[if_neg (by simpa using h3),sb]
    have:¬ InS s i:=fun h=>h3 h.1
    simp[this]
  ·rw[if_neg (by simpa using h2),sb]
   have:¬ InS s i:=fun h=>by have:=Z2s h;omega
   simp[this]
 ·rw[if_neg (by simpa using h1),sb]
  have:¬ InS s i:=fun h=>by have:=Z2s h;omega
  simp[this]
end Go.Proofs.YtlclecehlekjoaaGreat.PvGK
set_option linter.unusedVariables false
set_option linter.unusedSimpArgs false
namespace Go.Proofs.YtlclecehlekjoaaGreat.PvGK
open Go Go.Pv Go.Pv.GS Go.IntKind
structure BOk (s z:Int) (b:Z2):Prop where
 ins:InS s b.f0
 pos:0<b.f1
 low:z≤(b.f0-1)*stp s
def Up:Option Int→List Z2→Prop
 | _,[]=>True
 | p,b::l=>(∀ q,p=some q→q<b.f0)∧Up (some b.f0) l
theorem up_iff:∀ (l:List Z2) (p:Option Int),Up p l↔(∀ q,p=some q→∀ b∈l,q<b.f0)∧l.Pairwise (fun a b=>a.f0<b.f0)
 | [],p=>by simp[Up]
 | x::l,p=>by
  rw[Up,up_iff l,List.pairwise_cons]
  constructor
  ·rintro⟨h1,h2,h3⟩
   refine⟨fun q hq b hb => ?_,fun b hb=>h2 _ rfl b hb,h3⟩
   have h4:=h1 q hq
   rcases List.mem_cons.1 hb with rfl | hb
   ·exact h4
   ·have:=h2 _ rfl b hb;omega
  ·rintro⟨h1,h2,h3⟩
   exact⟨fun q hq=>h1 q hq x (by simp),fun q hq b hb=>by cases hq;exact h2 b hb,h3⟩
structure Side (s z:Int) (l:List Z2):Prop where
 len:l.length≤512
 ok:∀ b∈l,BOk s z b
 up:l.Pairwise (fun a b=>a.f0<b.f0)
theorem Side.canon {s z:Int} {l:List Z2} (h:Side s z l):Z30 l:=⟨h.up,fun b hb=>(h.ok b hb).pos⟩
structure Z1q (h:Ze):Prop where
 kind:h.f0=0∨h.f0=1
 schema:Z0p h.f1
 zero:h.f2 = -524288∨(-262144<h.f2∧h.f2≤262144)
 pos:Side h.f1 h.f2 h.f6
 neg:Side h.f1 h.f2 h.f7
 total:cnt h.f6+cnt h.f7+h.f3<18446744073709551616
 count:h.f4=cnt h.f6+cnt h.f7+h.f3
theorem last_pre {l pre:List Z2} {x:Z2} {suf:List Z2} {i:Int} (h1:l=pre++x::suf) (hi:i=(pre.length:Int)) (h0:0<i) (hl:l.length<1000000000) :
  ∃ q,(pre.getLast?).map (·.f0)=some q∧∃ y,at? l (i64.wrap (i-1))=some y∧y.f0=q:=by
 rcases List.eq_nil_or_concat pre with rfl | ⟨P,p,rfl⟩
 ·simp at hi;omega
 ·simp only[List.concat_eq_append] at *
  have hlen:l.length=P.length+1+(suf.length+1):=by rw[h1];simp;omega
  have hi2:i=(P.length:Int)+1:=by rw[hi];simp
  rw[Zl (by omega) (by omega)]
  exact⟨p.f0,by simp,p,Z10 (pre:=P) (suf:=x::suf) (by simp[h1]) (by omega),rfl⟩
theorem no_pre {pre:List Z2} {i:Int} (hi:i=(pre.length:Int)) (h0:¬ 0<i):(pre.getLast?).map (·.f0)=none:=by
 have:pre=[]:=List.length_eq_zero_iff.1 (by omega)
 subst this;rfl
theorem buckets_l0 (h:Ze) (l:List Z2) (hs:Z0p h.f1) (hl:l.length<1000000000):∀ (suf pre:List Z2) (i:Int),l=pre++suf→i=(pre.length:Int)→(∀ b∈suf,U64 b.f1) →
  ∃ r,Zq.l0 h l i=some r∧(∀ c,r = .inl c→c≠0)∧(r = .inr ()↔(∀ b∈suf,BOk h.f1 h.f2 b)∧Up ((pre.getLast?).map (·.f0)) suf):=by
 intro suf
 induction suf with
 | nil =>
  intro pre i h1 hi _
  subst h1
  rw[Zq.l0,if_neg (by simp[hi])]
  exact⟨_,rfl,by simp,by simp[Up]⟩
 | cons x suf ih =>
  intro pre i h1 hi hU
  have hx:=hU x (by simp)
  have hlen:(l.length:Int)=pre.length+(suf.length+1):=by rw[h1];simp
  rw[Zq.l0,if_pos (by simp;omega),Z10 h1 hi,sb,in_T hs,sb]
  by_cases c1:InS h.f1 x.f0
  case neg =>
   rw[if_pos (by simp[c1])]
   exact⟨_,rfl,by simp,by simp;intro h;exact absurd h.ins c1⟩
  rw[if_neg (by simp[c1])]
  have hprev:∃ c:Bool,((if(decide (i>(0:Int)))=true then((at? l (i64.wrap (i-(1:Int))))>>=fun b922=>some (decide (b922.f0≥x.f0))) else(some false)):Option (Bool))=some c∧(c=false↔∀ q,(pre.getLast?).map (·.f0)=some q→q<x.f0):=by
   by_cases h0:0<i
   ·obtain⟨q,e1,y,e2,e3⟩:=last_pre h1 hi h0 hl
    rw[if_pos (by simpa using h0),e2,sb]
    exact⟨_,rfl,by rw[e1,e3];simp⟩
   ·rw[if_neg (by simpa using h0)]
    exact⟨_,rfl,by rw[no_pre hi h0];simp⟩
  obtain⟨c,ec,hc⟩:=hprev
  rw[ec,sb,low_T hs c1]
  cases c with
  | true =>
   rw[if_pos rfl]
   refine⟨_,rfl,by simp,by simp;intro _ _ h2;exact absurd (hc.2 h2.1) (by simp)⟩
  | false =>
   rw[if_neg (by simp)]
   by_cases c2:x.f1=0
   ·rw[if_pos (by simpa using c2)]
    exact⟨_,rfl,by simp,by simp;intro h;have:=h.pos;omega⟩
   rw[if_neg (by simpa using c2),sb]
   by_cases c3:(x.f0-1)*stp h.f1<h.f2
   ·rw[if_pos (by simpa using c3)]
    exact⟨_,rfl,by simp,by simp;intro h;have:=h.low;omega⟩
   rw[if_neg (by simpa using c3),Zl (n:=i+1) (by omega) (by omega)]
   obtain⟨r,e,e1,e2⟩:=ih (pre++[x]) (i+1) (by simp[h1]) (by simp;omega) (fun b hb=>hU b (by simp[hb]))
   refine⟨r,e,e1,?_⟩
   rw[e2]
   simp only[List.getLast?_append,List.getLast?_singleton,Option.some_or,Option.map_some,Up,List.forall_mem_cons]
   have hb:BOk h.f1 h.f2 x:=⟨c1,by omega,by omega⟩
   constructor
   ·rintro⟨a,b⟩;exact⟨⟨hb,a⟩,hc.1 rfl,b⟩
   ·rintro⟨⟨_,a⟩,_,b⟩;exact⟨a,b⟩
theorem Z8k (h:Ze) (l:List Z2) (hs:Z0p h.f1) (hl:l.length<1000000000) (hU:∀ b∈l,U64 b.f1):∃ r,Zq.f h l=some r∧(r=0↔Side h.f1 h.f2 l):=by
 unfold Zq.f
 by_cases h0:l.length>512
 ·rw[if_pos (by simp;omega)]
  exact⟨_,rfl,by simp;intro h;have:=h.len;omega⟩
 ·rw[if_neg (by simp;omega)]
  obtain⟨r,e,e1,e2⟩:=buckets_l0 h l hs hl l [] 0 rfl rfl hU
  rw[e,sb]
  cases r with
  | inl c =>
   refine⟨c,rfl,?_⟩
   constructor
   ·intro h;exact absurd h (e1 c rfl)
   ·intro h
    exact absurd (e2.2 ⟨h.ok,(up_iff l _).2 ⟨by simp,h.up⟩⟩) (by simp)
  | inr u =>
   refine⟨0,rfl,?_⟩
   obtain⟨h1,h2⟩:=e2.1 rfl
   exact⟨fun _=>⟨by omega,h1,((up_iff l _).1 h2).2⟩,fun _=>rfl⟩
theorem check_iff (h:Ze) (hf:Fits h) (hp:h.f6.length<1000000000) (hn:h.f7.length<1000000000):∃ r,Z0l.f h=some r∧(r=0↔Z1q h):=by
 unfold Z0l.f
 have hk:((if(h.f0 != (0:Int))=true then(some (h.f0 != (1:Int))) else(some false)):Option (Bool))=some (!decide (h.f0=0∨h.f0=1)):=by
  by_cases h1:h.f0=0
  ·simp[h1]
  ·by_cases h2:h.f0=1<;>simp[h1,h2]
 rw[hk,sb]
 by_cases c1:h.f0=0∨h.f0=1
 case neg=>rw[if_pos (by simpa using c1)];exact⟨_,rfl,by simp;intro h;exact c1 h.kind⟩
 rw[if_neg (by rw[decide_eq_true c1];decide)]
 by_cases c2:Z0p h.f1
 case neg=>rw[right_F c2,sb,if_pos (by simp)];exact⟨_,rfl,by simp;intro h;exact c2 h.schema⟩
 rw[Z4t c2,sb,if_neg (by simp)]
 have hz:((if(h.f2 != (-524288))=true then(if(decide (h.f2≤(-262144)))=true then(some true) else(some (decide (h.f2>(262144:Int))))) else(some false)):Option (Bool))=some (!decide (h.f2 = -524288∨(-262144<h.f2∧h.f2≤262144))):=by
  by_cases h1:h.f2 = -524288
  ·simp[h1]
  ·by_cases h2:h.f2 ≤ -262144
   ·simp[h1,h2]
   ·have h4 : -262144<h.f2:=by omega
    by_cases h3:h.f2≤262144
    ·simp[h1,h2,h3,h4]
    ·simp[h1,h2,h3,h4];omega
 rw[hz,sb]
 by_cases c3:h.f2 = -524288∨(-262144<h.f2∧h.f2≤262144)
 case neg=>rw[if_pos (by simp[c3])];exact⟨_,rfl,by simp;intro h;exact c3 h.zero⟩
 rw[if_neg (by simp[c3])]
 obtain⟨r1,e1,i1⟩:=Z8k h h.f6 c2 hp (fun b hb=>(hf.pos b hb).2)
 obtain⟨r2,e2,i2⟩:=Z8k h h.f7 c2 hn (fun b hb=>(hf.neg b hb).2)
 rw[Z8j,e1,e2,sb,sb]
 by_cases d1:r1=0
 case neg=>rw[if_pos (by simpa using d1),sb];exact⟨_,rfl,⟨fun h=>absurd h d1,fun h=>absurd (i1.2 h.pos) d1⟩⟩
 rw[if_neg (by simpa using d1)]
 by_cases d2:r2=0
 case neg=>rw[if_pos (by simpa using d2),sb];exact⟨_,rfl,⟨fun h=>absurd h d2,fun h=>absurd (i2.2 h.neg) d2⟩⟩
 rw[if_neg (by simpa using d2),sb]
 simp only[]
 rw[total3 _ _ _ hp hn (fun b hb=>(hf.pos b hb).2) (fun b hb=>(hf.neg b hb).2) hf.zero,sb]
 by_cases c4:cnt h.f6+cnt h.f7+h.f3<18446744073709551616
 case neg=>rw[if_neg c4,if_pos (by simp)];exact⟨_,rfl,by simp;intro h;exact c4 h.total⟩
 rw[if_pos c4,if_neg (by simp)]
 by_cases c5:cnt h.f6+cnt h.f7+h.f3=h.f4
 ·rw[if_neg (by simpa using c5)]
  exact⟨0,rfl,fun _=>⟨c1,c2,c3,i1.1 d1,i2.1 d2,c4,c5.symm⟩,fun _=>rfl⟩
 ·rw[if_pos (by simpa using c5)]
  exact⟨_,rfl,by simp;intro h;exact c5 h.count.symm⟩
theorem check_T (h:Ze) (hf:Fits h) (hv:Z1q h):Z0l.f h=some 0:=by
 have hl:=hv.pos.len
 have hl2:=hv.neg.len
 obtain⟨r,e,i⟩:=check_iff h hf (by omega) (by omega)
 rw[e,i.2 hv]
theorem ref_add_l0 (l:List Int) (hl:l.length<4611686018427387904):∀ (suf pre:List Int) (acc i:Int),l=pre++suf→i=(pre.length:Int)→U64 acc→(∀ x∈suf,U64 x) →
  Z2f.l0 l acc i=some (if acc+suf.sum<18446744073709551616 then .inr (acc+suf.sum) else .inl (0,5)):=by
 intro suf
 induction suf with
 | nil =>
  intro pre acc i h1 hi ha hs
  subst h1
  rw[Z2f.l0,if_neg (by simp[hi])]
  simp[ha.2]
 | cons x suf ih =>
  intro pre acc i h1 hi ha hs
  have hx:=hs x (by simp)
  have hs':∀ y∈suf,U64 y:=fun y hy=>hs y (by simp[hy])
  have hnn:0≤suf.sum:=Z4i (fun y hy=>(hs' y hy).1)
  have hlen:(l.length:Int)=pre.length+(suf.length+1):=by rw[h1];simp
  rw[Z2f.l0,if_pos (by rw[h1];simp[hi];omega),Z10 h1 hi,sb,Z7z (n:=18446744073709551615-acc) (by omega) (by omega)]
  by_cases hov:acc+x<18446744073709551616
  ·rw[if_neg (by simp;omega),Zl     (by omega) (by omega),Z7z   (by omega) (by omega)]
   rw[ih (pre++[x]) (acc+x) (i+1) (by simp[h1]) (by simp;omega) ⟨by omega,hov⟩ hs']
   rw[List.sum_cons,Int.add_assoc]
  ·rw[if_pos (by simp;omega),if_neg (by rw[List.sum_cons];omega)]
theorem ref_add (l:List Int) (hl:l.length<4611686018427387904) (h:∀ x∈l,U64 x) :
  Z2f.f l=some (if l.sum<18446744073709551616 then(l.sum,0) else(0,5)):=by
 unfold Z2f.f
 rw[ref_add_l0 l hl l [] 0 0 rfl rfl (by omega) h,sb,Int.zero_add]
 by_cases h:l.sum<18446744073709551616
 ·rw[if_pos h,if_pos h]
 ·rw[if_neg h,if_neg h]
theorem ref_check_l1 (h:Ze) (x124:Int) (l:List Z2) (hs:Z0p h.f1) (hl:l.length<1000000):∀ (suf pre:List Z2) (acc:List Int) (i:Int),l=pre++suf→i=(pre.length:Int)→acc.length+suf.length<10000000→(∀ b∈suf,I64 b.f0∧U64 b.f1) →
  ∃ r,Zo.l1 h x124 l acc i=some r∧(∀ c,r = .inl c→c≠0)∧((∃ a,r = .inr a)↔(∀ b∈suf,BOk h.f1 h.f2 b)∧Up ((pre.getLast?).map (·.f0)) suf)∧∀ a,r = .inr a→a=acc++suf.map (·.f1):=by
 intro suf
 induction suf with
 | nil =>
  intro pre acc i h1 hi _ _
  subst h1
  rw[Zo.l1,if_neg (by simp[hi])]
  exact⟨_,rfl,by simp,by simp[Up],by simp⟩
 | cons x suf ih =>
  intro pre acc i h1 hi ha hU
  have hx:=hU x (by simp)
  have hlen:(l.length:Int)=pre.length+(suf.length+1):=by rw[h1];simp
  simp only[List.length_cons] at ha
  rw[Zo.l1,if_pos (by simp;omega),Z10 h1 hi,sb,ref_in hs hx.1,sb]
  by_cases c1:InS h.f1 x.f0
  case neg =>
   rw[if_pos (by simp[c1])]
   exact⟨_,rfl,by simp,by simp;intro h;exact absurd h.ins c1,by simp⟩
  rw[if_neg (by simp[c1])]
  have hsm:=Z2s c1
  have hprev:∃ c:Bool,((if(decide (i>(0:Int)))=true then((at? l (i64.wrap (i-(1:Int))))>>=fun b168=>some (decide (x.f0≤b168.f0))) else(some false)):Option (Bool))=some c∧(c=false↔∀ q,(pre.getLast?).map (·.f0)=some q→q<x.f0):=by
   by_cases h0:0<i
   ·obtain⟨q,e1,y,e2,e3⟩:=last_pre h1 hi h0 (by omega)
    rw[if_pos (by simpa using h0),e2,sb]
    exact⟨_,rfl,by rw[e1,e3];simp⟩
   ·rw[if_neg (by simpa using h0)]
    exact⟨_,rfl,by rw[no_pre hi h0];simp⟩
  obtain⟨c,ec,hc⟩:=hprev
  rw[ec,sb,Zl (n:=x.f0-1) (by omega) (by omega),Z3m hs (by omega)]
  cases c with
  | true =>
   rw[if_pos rfl]
   refine⟨_,rfl,by simp,by simp;intro _ _ h2;exact absurd (hc.2 h2.1) (by simp),by simp⟩
  | false =>
   rw[if_neg (by simp)]
   by_cases c2:x.f1=0
   ·rw[if_pos (by simpa using c2)]
    exact⟨_,rfl,by simp,by simp;intro h;have:=h.pos;omega,by simp⟩
   rw[if_neg (by simpa using c2),sb]
   by_cases c3:(x.f0-1)*stp h.f1<h.f2
   ·rw[if_pos (by simpa using c3)]
    exact⟨_,rfl,by simp,by simp;intro h;have:=h.low;omega,by simp⟩
   rw[if_neg (by simpa using c3),chkB (by simp;omega),Zl (n:=i+1) (by omega) (by omega)]
   obtain⟨r,e,e1,e2,e3⟩:=ih (pre++[x]) (acc++[x.f1]) (i+1) (by simp[h1]) (by simp;omega) (by simp;omega) (fun b hb=>hU b (by simp[hb]))
   refine⟨r,e,e1,?_,fun a ha=>by rw[e3 a ha];simp⟩
   rw[e2]
   simp only[List.getLast?_append,List.getLast?_singleton,Option.some_or,Option.map_some,Up,List.forall_mem_cons]
   have hb:BOk h.f1 h.f2 x:=⟨c1,by omega,by omega⟩
   constructor
   ·rintro⟨a,b⟩;exact⟨⟨hb,a⟩,hc.1 rfl,b⟩
   ·rintro⟨⟨_,a⟩,_,b⟩;exact⟨a,b⟩
theorem Z64 (h:Ze) (x124:Int) (l:List Z2) (acc:List Int) (hs:Z0p h.f1) (hl:l.length<1000000000000000) (ha:acc.length<1000000) (hU:∀ b∈l,I64 b.f0∧U64 b.f1) :
  ∃ r:Int ⊕ List Int,(if(decide ((l.length:Int)>(512:Int)))=true then(some (.inl 9)) else(Zo.l1 h x124 l acc 0))=some r∧(∀ c,r = .inl c→c≠0)∧((∃ a,r = .inr a)↔Side h.f1 h.f2 l)∧∀ a,r = .inr a→a=acc++l.map (·.f1):=by
 by_cases h0:l.length>512
 ·rw[if_pos (by simp;omega)]
  exact⟨_,rfl,by simp,by simp;intro h;have:=h.len;omega,by simp⟩
 ·rw[if_neg (by simp;omega)]
  obtain⟨r,e,e1,e2,e3⟩:=ref_check_l1 h x124 l hs (by omega) l [] acc 0 rfl rfl (by omega) hU
  refine⟨r,e,e1,e2.trans ⟨fun⟨h1,h2⟩=>⟨by omega,h1,((up_iff l _).1 h2).2⟩,fun h=>⟨h.ok,(up_iff l _).2 ⟨by simp,h.up⟩⟩⟩,e3⟩
theorem ref_check_iff (h:Ze) (hf:Fits h) (hp:h.f6.length<1000000000000000) (hn:h.f7.length<1000000000000000):∃ r,Zo.f h=some r∧(r=0↔Z1q h):=by
 unfold Zo.f
 have hk:((if(h.f0 != (0:Int))=true then(some (h.f0 != (1:Int))) else(some false)):Option (Bool))=some (!decide (h.f0=0∨h.f0=1)):=by
  by_cases h1:h.f0=0
  ·simp[h1]
  ·by_cases h2:h.f0=1<;>simp[h1,h2]
 rw[hk,sb]
 by_cases c1:h.f0=0∨h.f0=1
 case neg=>rw[if_pos (by simpa using c1)];exact⟨_,rfl,by simp;intro h;exact c1 h.kind⟩
 rw[if_neg (by rw[decide_eq_true c1];decide),Z3g,sb]
 by_cases c2:Z0p h.f1
 case neg=>rw[if_pos (by simp[c2])];exact⟨_,rfl,by simp;intro h;exact c2 h.schema⟩
 rw[if_neg (by simp[c2])]
 have hz:((if(h.f2 != (-524288))=true then(if(decide (h.f2≤(-262144)))=true then(some true) else(some (decide (h.f2>(262144:Int))))) else(some false)):Option (Bool))=some (!decide (h.f2 = -524288∨(-262144<h.f2∧h.f2≤262144))):=by
  by_cases h1:h.f2 = -524288
  ·simp[h1]
  ·by_cases h2:h.f2 ≤ -262144
   ·simp[h1,h2]
   ·have h4 : -262144<h.f2:=by omega
    by_cases h3:h.f2≤262144
    ·simp[h1,h2,h3,h4]
    ·simp[h1,h2,h3,h4];omega
 rw[hz,sb]
 by_cases c3:h.f2 = -524288∨(-262144<h.f2∧h.f2≤262144)
 case neg=>rw[if_pos (by simp[c3])];exact⟨_,rfl,by simp;intro h;exact c3 h.zero⟩
 rw[if_neg (by simp[c3])]
 obtain⟨r1,e1,n1,i1,j1⟩:=Z64 h 0 h.f6 [h.f3] c2 hp (by simp) hf.pos
 have w1:i64.wrap (0+1)=1:=by decide
 have w2:i64.wrap (1+1)=2:=by decide
 have step:∀ (k:Int) (l:List Z2) (acc:List Int),(k=0∧l=h.f6∨k=1∧l=h.f7)→Zo.l0 h acc k=((if(decide ((l.length:Int)>(512:Int)))=true then(some (.inl 9)) else(Zo.l1 h k l acc 0))>>=fun(oo:Int ⊕ List Int)=>match oo with | .inl rr=>(some (.inl rr)) | .inr x181=>(Zo.l0 h x181 (k+1))):=by
  intro k l acc hk
  rcases hk with ⟨rfl,rfl⟩ | ⟨rfl,rfl⟩
  ·rw[Zo.l0,if_pos (by decide),if_neg (by decide),sb,w1,Z6u];rfl
  ·rw[Zo.l0,if_pos (by decide),if_pos (by decide),sb,w2,Z6u];rfl
 rw[step 0 h.f6 _ (.inl ⟨rfl,rfl⟩),e1,sb]
 cases r1 with
 | inl c=>exact⟨c,rfl,fun h=>absurd h (n1 c rfl),fun h=>by obtain⟨a,e⟩:=i1.2 h.pos;cases e⟩
 | inr a1 =>
  have hv1:=i1.1 ⟨_,rfl⟩
  have ha1:=j1 a1 rfl
  have hl1:=hv1.len
  obtain⟨r2,e2,n2,i2,j2⟩:=Z64 h 1 h.f7 a1 c2 hn (by rw[ha1];simp;omega) hf.neg
  simp only[]
  rw[show(0:Int)+1=1 from rfl,step 1 h.f7 _ (.inr ⟨rfl,rfl⟩),e2,sb]
  cases r2 with
  | inl c=>exact⟨c,rfl,fun h=>absurd h (n2 c rfl),fun h=>by obtain⟨a,e⟩:=i2.2 h.neg;cases e⟩
  | inr a2 =>
   have hv2:=i2.1 ⟨_,rfl⟩
   have ha2:=j2 a2 rfl
   have hl2:=hv2.len
   simp only[]
   rw[show(1:Int)+1=2 from rfl,Zo.l0,if_neg (by decide),sb]
   simp only[]
   have hall:a2=[h.f3]++h.f6.map (·.f1)++h.f7.map (·.f1):=by rw[ha2,ha1]
   have hsum:a2.sum=cnt h.f6+cnt h.f7+h.f3:=by rw[hall];simp[cnt];omega
   rw[ref_add a2 (by rw[hall];simp;omega) (by
    intro x hx
    rw[hall] at hx
    simp only[List.mem_append,List.mem_singleton,List.mem_map] at hx
    rcases hx with (rfl | ⟨b,hb,rfl⟩) | ⟨b,hb,rfl⟩
    ·exact hf.zero
    ·exact(hf.pos b hb).2
    ·exact(hf.neg b hb).2),sb,hsum]
   by_cases c4:cnt h.f6+cnt h.f7+h.f3<18446744073709551616
   case neg=>rw[if_neg c4,if_pos (by simp)];exact⟨_,rfl,by simp;intro h;exact c4 h.total⟩
   rw[if_pos c4,if_neg (by simp)]
   by_cases c5:cnt h.f6+cnt h.f7+h.f3=h.f4
   ·rw[if_neg (by simpa using c5)]
    exact⟨0,rfl,fun _=>⟨c1,c2,c3,hv1,hv2,c4,c5.symm⟩,fun _=>rfl⟩
   ·rw[if_pos (by simpa using c5)]
    exact⟨_,rfl,by simp;intro h;exact c5 h.count.symm⟩
end Go.Proofs.YtlclecehlekjoaaGreat.PvGK
set_option linter.unusedVariables false
set_option linter.unusedSimpArgs false
namespace Go.Proofs.YtlclecehlekjoaaGreat.PvGK
open Go Go.Pv Go.Pv.GS Go.IntKind
theorem bk_same (h:Ze) (x124:Int) (l:List Z2) (hs:Z0p h.f1) (hl:l.length<1000000):∀ (suf pre:List Z2) (acc:List Int) (i:Int),l=pre++suf→i=(pre.length:Int)→acc.length+suf.length<10000000→(∀ b∈suf,I64 b.f0∧U64 b.f1) →
  ∃ r:Int,Zq.l0 h l i=some (if r=0 then .inr () else .inl r)∧Zo.l1 h x124 l acc i=some (if r=0 then .inr (acc++suf.map (·.f1)) else .inl r):=by
 intro suf
 induction suf with
 | nil =>
  intro pre acc i h1 hi _ _
  subst h1
  refine⟨0,?_,?_⟩
  ·rw[Zq.l0,if_neg (by simp[hi]),if_pos rfl]
  ·rw[Zo.l1,if_neg (by simp[hi]),if_pos rfl];simp
 | cons x suf ih =>
  intro pre acc i h1 hi ha hU
  have hx:=hU x (by simp)
  have hlen:(l.length:Int)=pre.length+(suf.length+1):=by rw[h1];simp
  simp only[List.length_cons] at ha
  by_cases c1:InS h.f1 x.f0
  case neg =>
   refine⟨4,?_,?_⟩
   ·rw[Zq.l0,if_pos (by simp;omega),Z10 h1 hi,sb,in_T hs,sb,if_pos (by simp[c1]),if_neg (by omega)]
   ·rw[Zo.l1,if_pos (by simp;omega),Z10 h1 hi,sb,ref_in hs hx.1,sb,if_pos (by simp[c1]),if_neg (by omega)]
  have hsm:=Z2s c1
  obtain⟨c,ec1,ec2⟩:∃ c:Bool,((if(decide (i>(0:Int)))=true then((at? l (i64.wrap (i-(1:Int))))>>=fun b922=>some (decide (b922.f0≥x.f0))) else(some false)):Option (Bool))=some c ∧
    ((if(decide (i>(0:Int)))=true then((at? l (i64.wrap (i-(1:Int))))>>=fun b168=>some (decide (x.f0≤b168.f0))) else(some false)):Option (Bool))=some c:=by
   by_cases h0:0<i
   ·obtain⟨q,e1,y,e2,e3⟩:=last_pre h1 hi h0 (by omega)
    exact⟨decide (x.f0≤y.f0),by rw[if_pos (by simpa using h0),e2,sb],by rw[if_pos (by simpa using h0),e2,sb]⟩
   ·exact⟨false,by rw[if_neg (by simpa using h0)],by rw[if_neg (by simpa using h0)]⟩
  have P:Zq.l0 h l i=(if c=true then some (.inl 32) else if x.f1=0 then some (.inl 21) else if(x.f0-1)*stp h.f1<h.f2 then some (.inl 31) else Zq.l0 h l (i+1)):=by
   rw[Zq.l0,if_pos (by simp;omega),Z10 h1 hi,sb,in_T hs,sb,if_neg (by simp[c1]),ec1,sb,low_T hs c1,Zl (n:=i+1) (by omega) (by omega)]
   simp only[sb]
   simp
  have Q:Zo.l1 h x124 l acc i=(if c=true then some (.inl 32) else if x.f1=0 then some (.inl 21) else if(x.f0-1)*stp h.f1<h.f2 then some (.inl 31) else Zo.l1 h x124 l (acc++[x.f1]) (i+1)):=by
   rw[Zo.l1,if_pos (by simp;omega),Z10 h1 hi,sb,ref_in hs hx.1,sb,if_neg (by simp[c1]),ec2,sb,Zl (n:=x.f0-1) (by omega) (by omega),Z3m hs (by omega),chkB (by simp;omega),Zl (n:=i+1) (by omega) (by omega)]
   simp only[sb]
   simp
  cases c with
  | true=>exact⟨32,by rw[P,if_pos rfl,if_neg (by omega)],by rw[Q,if_pos rfl,if_neg (by omega)]⟩
  | false =>
   by_cases c2:x.f1=0
   ·exact⟨21,by rw[P,if_neg (by simp),if_pos c2,if_neg (by omega)],by rw[Q,if_neg (by simp),if_pos c2,if_neg (by omega)]⟩
   by_cases c3:(x.f0-1)*stp h.f1<h.f2
   ·exact⟨31,by rw[P,if_neg (by simp),if_neg c2,if_pos c3,if_neg (by omega)],by rw[Q,if_neg (by simp),if_neg c2,if_pos c3,if_neg (by omega)]⟩
   obtain⟨r,e1,e2⟩:=ih (pre++[x]) (acc++[x.f1]) (i+1) (by simp[h1]) (by simp;omega) (by simp;omega) (fun b hb=>hU b (by simp[hb]))
   exact⟨r,by rw[P,if_neg (by simp),if_neg c2,if_neg c3,e1],by rw[Q,if_neg (by simp),if_neg c2,if_neg c3,e2];simp⟩
theorem side_same (h:Ze) (x124:Int) (l:List Z2) (acc:List Int) (hs:Z0p h.f1) (ha:acc.length<1000000) (hU:∀ b∈l,I64 b.f0∧U64 b.f1) :
  ∃ r:Int,Zq.f h l=some r∧(if(decide ((l.length:Int)>(512:Int)))=true then(some (.inl 9)) else(Zo.l1 h x124 l acc 0))=some (if r=0 then Sum.inr (acc++l.map (·.f1)) else .inl r):=by
 by_cases h0:l.length>512
 ·refine⟨9,?_,?_⟩
  ·unfold             Zq.f
   rw[if_pos (by simp;omega)]
  ·rw[if_pos (by simp;omega),if_neg (by omega)]
 ·obtain⟨r,e1,e2⟩:=bk_same h x124 l hs (by omega) l [] acc 0 rfl rfl (by omega) hU
  refine⟨r,?_,?_⟩
  ·unfold             Zq.f
   rw[if_neg (by simp;omega),e1,sb]
   by_cases c:r=0
   ·rw[if_pos c];simp[c]
   ·rw[if_neg c]
  ·rw[if_neg (by simp;omega),e2]
theorem Z7d (h:Ze) (hf:Fits h) (hp:h.f6.length<1000000000000000) (hn:h.f7.length<1000000000000000):∃ r,Z0l.f h=some r∧Zo.f h=some r∧(r=0↔Z1q h):=by
 obtain⟨r,er,hr⟩:=ref_check_iff h hf hp hn
 refine⟨r,?_,er,hr⟩
 suffices q:Zo.f h=Z0l.f h by rw[← q];exact er
 clear er hr
 have hk:((if(h.f0 != (0:Int))=true then(some (h.f0 != (1:Int))) else(some false)):Option (Bool))=some (!decide (h.f0=0∨h.f0=1)):=by
  by_cases h1:h.f0=0
  ·simp[h1]
  ·by_cases h2:h.f0=1<;>simp[h1,h2]
 have hz:((if(h.f2 != (-524288))=true then(if(decide (h.f2≤(-262144)))=true then(some true) else(some (decide (h.f2>(262144:Int))))) else(some false)):Option (Bool))=some (!decide (h.f2 = -524288∨(-262144<h.f2∧h.f2≤262144))):=by
  by_cases h1:h.f2 = -524288
  ·simp[h1]
  ·by_cases h2:h.f2 ≤ -262144
   ·simp[h1,h2]
   ·have h4 : -262144<h.f2:=by omega
    by_cases h3:h.f2≤262144
    ·simp[h1,h2,h3,h4]
    ·simp[h1,h2,h3,h4];omega
 unfold Z0l.f Zo.f
 rw[hk,sb,sb,Z3g]
 by_cases c1:h.f0=0∨h.f0=1
 case neg=>rw[if_pos (by simpa using c1),if_pos (by simpa using c1)]
 have hk1:¬ ((!decide (h.f0=0∨h.f0=1))=true):=by rw[decide_eq_true c1];decide
 rw[if_neg hk1,if_neg hk1]
 by_cases c2:Z0p h.f1
 case neg=>rw[right_F c2,sb,sb,if_pos (by simp[c2]),if_pos (by simp)]
 rw[Z4t c2,sb,sb]
 rw[if_neg (show ¬ ((!decide (Z0p h.f1))=true) by simp[c2]),if_neg (show ¬ ((!true)=true) by simp),hz,sb,sb]
 by_cases c3:h.f2 = -524288∨(-262144<h.f2∧h.f2≤262144)
 case neg =>
  have hk3:(!decide (h.f2 = -524288∨(-262144<h.f2∧h.f2≤262144)))=true:=by rw[decide_eq_false c3];rfl
  rw[if_pos hk3,if_pos hk3]
 have hk3:¬ ((!decide (h.f2 = -524288∨(-262144<h.f2∧h.f2≤262144)))=true):=by rw[decide_eq_true c3];decide
 rw[if_neg hk3,if_neg hk3]
 obtain⟨r1,p1,q1⟩:=side_same h 0 h.f6 [h.f3] c2 (by simp) hf.pos
 have w1:i64.wrap (0+1)=1:=by decide
 have w2:i64.wrap (1+1)=2:=by decide
 have step:∀ (k:Int) (l:List Z2) (acc:List Int),(k=0∧l=h.f6∨k=1∧l=h.f7)→Zo.l0 h acc k=((if(decide ((l.length:Int)>(512:Int)))=true then(some (.inl 9)) else(Zo.l1 h k l acc 0))>>=fun(oo:Int ⊕ List Int)=>match oo with | .inl rr=>(some (.inl rr)) | .inr x181=>(Zo.l0 h x181 (k+1))):=by
  intro k l acc hk
  rcases hk with ⟨rfl,rfl⟩ | ⟨rfl,rfl⟩
  ·rw[Zo.l0,if_pos (by decide),if_neg (by decide),sb,w1,Z6u];rfl
  ·rw[Zo.l0,if_pos (by decide),if_pos (by decide),sb,w2,Z6u];rfl
 rw[step 0 h.f6 _ (.inl ⟨rfl,rfl⟩),q1,sb,Z8j,p1,sb]
 by_cases d1:r1=0
 case neg=>rw[if_neg d1,if_pos (by simpa using d1)];simp only[sb]
 rw[if_pos d1,if_neg (by simpa using d1)]
 by_cases hlen6:h.f6.length≤512
 case neg =>
  exfalso
  have:Zq.f h h.f6=some 9:=by unfold Zq.f;rw[if_pos (by simp;omega)]
  rw[p1] at this;simp at this;omega
 obtain⟨r2,p2,q2⟩:=side_same h 1 h.f7 ([h.f3]++h.f6.map (·.f1)) c2 (by simp;omega) hf.neg
 simp only[]
 rw[show(0:Int)+1=1 from rfl,step 1 h.f7 _ (.inr ⟨rfl,rfl⟩),q2,sb,p2,sb]
 by_cases d2:r2=0
 case neg=>rw[if_neg d2,if_pos (by simpa using d2)];simp only[sb]
 rw[if_pos d2,if_neg (by simpa using d2)]
 by_cases hlen7:h.f7.length≤512
 case neg =>
  exfalso
  have:Zq.f h h.f7=some 9:=by unfold Zq.f;rw[if_pos (by simp;omega)]
  rw[p2] at this;simp at this;omega
 simp only[]
 rw[show(1:Int)+1=2 from rfl,Zo.l0,if_neg (by decide),sb,sb]
 simp only[]
 rw[total3 _ _ _ (by omega) (by omega) (fun b hb=>(hf.pos b hb).2) (fun b hb=>(hf.neg b hb).2) hf.zero,sb]
 have hsum:(([h.f3]++h.f6.map (·.f1))++h.f7.map (·.f1)).sum=cnt h.f6+cnt h.f7+h.f3:=by simp[cnt];omega
 rw[ref_add _ (by simp;omega) (by
  intro x hx
  simp only[List.mem_append,List.mem_singleton,List.mem_map] at hx
  rcases hx with (rfl | ⟨b,hb,rfl⟩) | ⟨b,hb,rfl⟩
  ·exact hf.zero
  ·exact(hf.pos b hb).2
  ·exact(hf.neg b hb).2),sb,hsum]
 by_cases c4:cnt h.f6+cnt h.f7+h.f3<18446744073709551616
 ·rw[if_pos c4];try simp
 ·rw[if_neg c4];try simp
end Go.Proofs.YtlclecehlekjoaaGreat.PvGK
set_option linter.unusedVariables false
set_option linter.unusedSimpArgs false
namespace Go.Proofs.YtlclecehlekjoaaGreat.PvGK
open Go Go.Pv Go.Pv.GS Go.IntKind
open Classical
def wsum (l:List Z2) (w:Int→Int):Int:=(l.map (fun b=>b.f1*w b.f0)).sum
theorem Z6f (b:Z2) (l:List Z2) (w:Int→Int):wsum (b::l) w=b.f1*w b.f0+wsum l w:=by simp[wsum]
theorem wsum_append (a b:List Z2) (w:Int→Int):wsum (a++b) w=wsum a w+wsum b w:=by simp[wsum]
theorem wsum_split (l:List Z2) (i:Int) (w:Int→Int):wsum l w=tot l i*w i+wsum (l.filter (fun b=>decide (b.f0≠i))) w:=by
 induction l with
 | nil=>simp[wsum,tot]
 | cons b l ih =>
  rw[Z6f,ih,tot]
  by_cases h:b.f0=i
  ·subst h;simp[Int.add_mul];omega
  ·rw[if_neg h,List.filter_cons_of_pos (by simpa using h),Z6f,Int.zero_add];omega
theorem Z4w (l:List Z2) (p:Int→Bool) (i:Int):tot (l.filter (fun b=>p b.f0)) i=if p i=true then tot l i else 0:=by
 induction l with
 | nil=>simp[tot]
 | cons b l ih =>
  by_cases h:p b.f0=true
  ·rw[List.filter_cons_of_pos (by simpa using h),tot,ih,tot]
   by_cases e:b.f0=i
   ·subst e;simp[h]
   ·simp[e]
  ·rw[List.filter_cons_of_neg (by simpa using h),ih,tot]
   by_cases e:b.f0=i
   ·subst e;simp[h]
   ·simp[e]
theorem wsum_zero:∀ (n:Nat) (l:List Z2),l.length≤n→(∀ i,tot l i=0)→∀ w,wsum l w=0:=by
 intro n
 induction n with
 | zero =>
  intro l hn _ w
  obtain rfl:l=[]:=List.length_eq_zero_iff.1 (by omega)
  rfl
 | succ n ih =>
  intro l hn h w
  cases l with
  | nil=>rfl
  | cons b l =>
   rw[wsum_split _ b.f0,h,Int.zero_mul,Int.zero_add]
   refine ih _ ?_ (fun i => ?_) w
   ·rw[List.filter_cons_of_neg (by simp)]
    have:=List.length_filter_le (fun b':Z2=>decide (b'.f0≠b.f0)) l
    simp only[List.length_cons] at hn;omega
   ·have:=Z4w        (b::l) (fun j=>decide (j≠b.f0)) i
    rw[this,h];simp
def negl (l:List Z2):List Z2:=l.map (fun b=>⟨b.f0,-b.f1⟩)
theorem Z6g (l:List Z2) (i:Int):tot (negl l) i = - tot l i:=by
 induction l with
 | nil=>rfl
 | cons b l ih=>simp only[negl,List.map_cons,tot] at *;rw[ih];split<;>omega
theorem Z5f (l:List Z2) (w:Int→Int):wsum (negl l) w = - wsum l w:=by
 induction l with
 | nil=>rfl
 | cons b l ih=>rw[negl,List.map_cons,Z6f,Z6f];rw[negl] at ih;rw[ih];simp[Int.neg_mul];omega
theorem wsum_congr {l l':List Z2} (h:∀ i,tot l i=tot l' i) (w:Int→Int):wsum l w=wsum l' w:=by
 have:=wsum_zero _ (l++negl l') (Nat.le_refl _) (fun i=>by rw[Z2c,Z6g,h];omega) w
 rw[wsum_append,Z5f] at this;omega
theorem Z43 (l:List Z2):cnt l=wsum l (fun _=>1):=by simp[cnt,wsum]
theorem Z3o {l l':List Z2} (h:∀ i,tot l i=tot l' i):cnt l=cnt l':=by rw[Z43,Z43,wsum_congr h]
theorem Z71 {l:List Z2} (h:Nn l) (i:Int):tot l i≤cnt l:=by
 induction l with
 | nil=>simp[tot,cnt]
 | cons b l ih =>
  have:=h b (by simp)
  have h2:Nn l:=fun y hy=>h y (by simp[hy])
  have:=ih h2
  have:=Z0i h2
  rw[tot,Z3c];split<;>omega
theorem Z52 (l:List Z2) (p:Z2→Bool):cnt (l.filter p)+cnt (l.filter (fun b => !p b))=cnt l:=by
 induction l with
 | nil=>rfl
 | cons b l ih =>
  cases h:p b with
  | true=>rw[List.filter_cons_of_pos h,List.filter_cons_of_neg (by simp[h]),Z3c,Z3c];omega
  | false=>rw[List.filter_cons_of_neg (by simp[h]),List.filter_cons_of_pos (by simp[h]),Z3c,Z3c];omega
structure Bs (s z:Int) (l:List Z2):Prop where
 len:l.length≤5000
 ok:∀ b∈l,InS s b.f0∧0≤b.f1∧z≤(b.f0-1)*stp s
theorem Bs.nn {s z:Int} {l:List Z2} (h:Bs s z l):Nn l:=fun b hb=>(h.ok b hb).2.1
theorem le_cnt {l:List Z2} (h:Nn l) {b:Z2} (hb:b∈l):b.f1≤cnt l:=Int.le_trans (tot_mem h hb) (Z71 h _)
theorem tidy_ok {s z:Int} {l:List Z2} (h:Bs s z l) (ht:cnt l<18446744073709551616) :
  ∃ o,Z0u.f l=some (o,0)∧Z30 o∧(∀ i,tot o i=tot l i)∧(∀ b∈o,BOk s z b)∧(∀ b∈o,U64 b.f1)∧o.length≤l.length∧cnt o=cnt l:=by
 have hl:=h.len
 rcases tidy_spec l (by omega) (fun b hb=>⟨h.nn b hb,by have:=le_cnt h.nn hb;omega⟩) with ⟨o,e,h1,h2,h3,h4,h5⟩ | ⟨e,i,h1⟩
 ·refine⟨o,e,h1,h2,fun b hb => ?_,h3,h5,Z3o       h2⟩
  obtain⟨p,hp,e⟩:=h4 b hb
  have:=h.ok p hp
  exact⟨e ▸ this.1,h1.pos b hb,e ▸ this.2.2⟩
 ·have:=Z71 h.nn i;omega
theorem inS_i64 {s i:Int} (h:InS s i):I64 i:=by have:=Z2s h;constructor<;>omega
theorem Z79 (g:Ze) (p n:List Z2) (hk:g.f0=0∨g.f0=1) (hs:Z0p g.f1) (hz:g.f2 = -524288∨(-262144<g.f2∧g.f2≤262144)) (h3:0≤g.f3) (h5:I64 g.f5)
  (hp:Bs g.f1 g.f2 p) (hn:Bs g.f1 g.f2 n) (ht:cnt p+cnt n+g.f3<18446744073709551616) (hl:∀ o,Z30 o→(((∀ i,tot o i=tot p i)∧o.length≤p.length)∨((∀ i,tot o i=tot n i)∧o.length≤n.length))→o.length≤512) :
  ∃ r,Z2n.f g p n=some (r,0)∧Z1q r∧Fits r∧r.f0=g.f0∧r.f1=g.f1∧r.f2=g.f2∧r.f3=g.f3∧r.f5=g.f5∧(∀ i,tot r.f6 i=tot p i)∧(∀ i,tot r.f7 i=tot n i)∧r.f4=cnt p+cnt n+g.f3:=by
 have np:=Z0i hp.nn
 have nn:=Z0i hn.nn
 obtain⟨o,e1,c1,t1,b1,u1,l1,q1⟩:=tidy_ok hp (by omega)
 obtain⟨o2,e2,c2,t2,b2,u2,l2,q2⟩:=tidy_ok hn (by omega)
 have hlp:=hp.len
 have hln:=hn.len
 have htot:=total3 o o2 g.f3 (by omega) (by omega) u1 u2 ⟨h3,by omega⟩
 rw[q1,q2,if_pos ht] at htot
 have hf:Fits (⟨g.f0,g.f1,g.f2,g.f3,cnt p+cnt n+g.f3,g.f5,o,o2⟩:Ze) :=
  ⟨by rcases hk with h | h<;>rw[h]<;>constructor<;>omega,by have:=hs.1;have:=hs.2;constructor<;>simp<;>omega,by rcases hz with h | h<;>constructor<;>simp<;>omega,⟨h3,by simp;omega⟩,⟨by simp;omega,ht⟩,h5,
   fun b hb=>⟨inS_i64 (b1 b hb).ins,u1 b hb⟩,fun b hb=>⟨inS_i64 (b2 b hb).ins,u2 b hb⟩⟩
 have hv:Z1q (⟨g.f0,g.f1,g.f2,g.f3,cnt p+cnt n+g.f3,g.f5,o,o2⟩:Ze) :=
  ⟨hk,hs,hz,⟨hl o c1 (.inl ⟨t1,l1⟩),b1,c1.up⟩,⟨hl o2 c2 (.inr ⟨t2,l2⟩),b2,c2.up⟩,by simp only[q1,q2];exact ht,by simp only[q1,q2]⟩
 refine⟨_,?_,hv,hf,rfl,rfl,rfl,rfl,rfl,t1,t2,rfl⟩
 unfold Z2n.f
 rw[e1,e2,sb,sb,if_neg (by simp),htot,sb,if_neg (by simp),check_T _ hf hv,sb,if_neg (by simp)]
def Z2p (s a:Int) (l:List Z2):Prop:=∃ b∈l,(b.f0-1)*stp s<a∧a<b.f0*stp s
def cg (s a:Int):Int:=-((-a) / stp s)*stp s
theorem cg_eq {s a i:Int} (h1:(i-1)*stp s<a) (h2:a≤i*stp s):cg s a=i*stp s:=by
 have hp:=Z3t s
 unfold cg
 generalize stp s=st at *
 have : -((-a) / st)=i:=by
  have e1:=Int.ediv_mul_le (-a) (show st≠0 by omega)
  have e2:=Int.lt_ediv_add_one_mul_self (-a) hp
  generalize (-a) / st=q at *
  rw[Int.add_mul] at e2
  rw[Int.sub_mul] at h1
  have a1 : -q*st<(i+1)*st:=by rw[Int.neg_mul,Int.add_mul];omega
  have a2:(i-1)*st < -q*st:=by rw[Int.neg_mul,Int.sub_mul];omega
  have b1:=Int.lt_of_mul_lt_mul_right a1 (by omega)
  have b2:=Int.lt_of_mul_lt_mul_right a2 (by omega)
  omega
 rw[this]
theorem edge_l0 (h:Ze) (l:List Z2) (a:Int) (hs:Z0p h.f1) (hl:l.length<1000000000) (hi:∀ b∈l,InS h.f1 b.f0):∀ (suf pre:List Z2) (i:Int),l=pre++suf→i=(pre.length:Int) →
  Z1i.l0 h l a i=some (if Z2p h.f1 a suf then .inl (cg h.f1 a) else .inr ()):=by
 intro suf
 induction suf with
 | nil =>
  intro pre i h1 hi0
  subst h1
  rw[Z1i.l0,if_neg (by simp[hi0]),if_neg (by simp[Z2p])]
 | cons x suf ih =>
  intro pre i h1 hi0
  have hx:=hi x (by rw[h1];simp)
  have hlen:(l.length:Int)=pre.length+(suf.length+1):=by rw[h1];simp
  rw[Z1i.l0,if_pos (by simp;omega),Z10 h1 hi0,sb,low_T hs hx,sb,units_in hs hx,sb,ifand,sb,sb]
  by_cases hc:(x.f0-1)*stp h.f1<a∧a<x.f0*stp h.f1
  ·rw[if_pos (by simpa using hc),if_pos ⟨x,by simp,hc⟩,cg_eq hc.1 (by omega)]
  ·rw[if_neg (by simpa using hc),Zl     (by omega) (by omega),ih (pre++[x]) (i+1) (by simp[h1]) (by simp;omega)]
   have:Z2p h.f1 a (x::suf)↔Z2p h.f1 a suf:=by
    constructor
    ·rintro⟨b,hb,h⟩
     rcases List.mem_cons.1 hb with rfl | hb
     ·exact absurd h hc
     ·exact⟨b,hb,h⟩
    ·rintro⟨b,hb,h⟩;exact⟨b,by simp[hb],h⟩
   by_cases hst:Z2p h.f1 a suf
   ·rw[if_pos hst,if_pos (this.2 hst)]
   ·rw[if_neg hst,if_neg (fun q=>hst (this.1 q))]
theorem edge_eq (h:Ze) (l:List Z2) (a:Int) (hs:Z0p h.f1) (hl:l.length<1000000000) (hi:∀ b∈l,InS h.f1 b.f0) :
  Z1i.f h l a=some (if Z2p h.f1 a l then cg h.f1 a else a):=by
 unfold Z1i.f
 rw[edge_l0 h l a hs hl hi l [] 0 rfl rfl,sb]
 by_cases hst:Z2p h.f1 a l
 ·rw[if_pos hst,if_pos hst]
 ·rw[if_neg hst,if_neg hst]
abbrev Z8n (s a:Int) (i:Int):Bool:=decide (a<i*stp s)
abbrev Z3v (s a:Int) (l:List Z2):List Z2:=l.filter (fun b=>Z8n s a b.f0)
abbrev Z4c (s a:Int) (l:List Z2):List Z2:=l.filter (fun b => !Z8n s a b.f0)
theorem keep_l0 (l:List Z2) (c0 s c2 c4 c5:Int) (c6 c7:List Z2) (a:Int) (hs:Z0p s) (hl:l.length<1000000) (hi:∀ b∈l,InS s b.f0) (hU:∀ b∈l,0≤b.f1):∀ (suf pre:List Z2) (z:Int) (o:List Z2) (i:Int),l=pre++suf→i=(pre.length:Int)→0≤z→z+cnt suf<18446744073709551616→o.length≤pre.length →
  Zt.l0 l c0 s c2 c4 c5 c6 c7 a z o i=some (o++Z3v s a suf,z+cnt (Z4c s a suf)):=by
 intro suf
 induction suf with
 | nil =>
  intro pre z o i h1 hi0 _ _ _
  subst h1
  rw[Zt.l0,if_neg (by simp[hi0])]
  simp[cnt]
 | cons x suf ih =>
  intro pre z o i h1 hi0 h0 hz ho
  have hx:=hi x (by rw[h1];simp)
  have hx1:=hU x (by rw[h1];simp)
  have hn:0≤cnt suf:=Z0i (fun b hb=>hU b (by rw[h1];simp[hb]))
  have hlen:(l.length:Int)=pre.length+(suf.length+1):=by rw[h1];simp
  rw[Z3c] at hz
  rw[Zt.l0,if_pos (by simp;omega),Z10 h1 hi0,sb,units_in hs hx,sb,Zl (by omega) (by omega),num_add2 (a:=z) (b:=x.f1) ⟨h0,by omega⟩ ⟨hx1,by omega⟩]
  by_cases hc:a<x.f0*stp s
  ·rw[if_pos (by simpa using hc),chkB (by simp;omega),sb]
   simp only[]
   rw[ih (pre++[x]) z (o++[x]) (i+1) (by simp[h1]) (by simp;omega) h0 (by omega) (by simp;omega)]
   simp[hc]
  ·rw[if_neg (by simpa using hc),if_pos (by omega),sb,sb]
   simp only[]
   rw[ih (pre++[x]) (z+x.f1) o (i+1) (by simp[h1]) (by simp;omega) (by omega) (by omega) (by simp;omega)]
   rw[show Z3v s a (x::suf)=Z3v s a suf from List.filter_cons_of_neg (by simpa using hc),show Z4c s a (x::suf)=x::Z4c s a suf from List.filter_cons_of_pos (by simpa using hc),Z3c,Int.add_assoc]
theorem keep_eq (l:List Z2) (c0 s c2 z c4 c5:Int) (c6 c7:List Z2) (a:Int) (hs:Z0p s) (hl:l.length<1000000) (hi:∀ b∈l,InS s b.f0) (hU:∀ b∈l,0≤b.f1) (h0:0≤z) (hz:z+cnt l<18446744073709551616) :
  Zt.f l c0 s c2 z c4 c5 c6 c7 a=some (Z3v s a l,z+cnt (Z4c s a l)):=by
 unfold Zt.f
 rw[keep_l0 l c0 s c2 c4 c5 c6 c7 a hs hl hi hU l [] z [] 0 rfl rfl h0 hz (Nat.le_refl _),sb]
 simp
noncomputable def zAt (s a:Int) (p n:List Z2):Int:=if Z2p s a p∨Z2p s a n then cg s a else a
theorem strad_lt {s a:Int} {l:List Z2} (h:Z2p s a l):a<cg s a:=by
 obtain⟨b,hb,h1,h2⟩:=h
 rw[cg_eq h1 (by omega)];exact h2
theorem zAt_max (s a:Int) (p n:List Z2):(if(if Z2p s a n then cg s a else a)>(if Z2p s a p then cg s a else a) then(if Z2p s a n then cg s a else a) else(if Z2p s a p then cg s a else a))=zAt s a p n:=by
 unfold zAt
 by_cases h1:Z2p s a p
 ·have:=strad_lt h1
  by_cases h2:Z2p s a n<;>simp[h1,h2];omega
 ·by_cases h2:Z2p   s a n
  ·have:=strad_lt h2
   simp[h1,h2];omega
  ·simp[h1,h2]
theorem zAt_le (s a:Int) (p n:List Z2):a≤zAt s a p n:=by
 unfold zAt
 split
 ·rename_i h;rcases h with h | h<;>exact Int.le_of_lt (strad_lt h)
 ·exact Int.le_refl _
structure Cs (s:Int) (l:List Z2):Prop where
 len:l.length≤5000
 ins:∀ b∈l,InS s b.f0
 pos:∀ b∈l,0<b.f1
theorem Cs.nn {s:Int} {l:List Z2} (h:Cs s l):Nn l:=fun b hb=>Int.le_of_lt (h.pos b hb)
theorem kept_low {s a:Int} {p n l:List Z2} (hl:l=p∨l=n) {b:Z2} (hb:b∈l) (h:zAt s a p n<b.f0*stp s):zAt s a p n≤(b.f0-1)*stp s:=by
 have hp:=Z3t s
 unfold zAt at *
 by_cases hc:Z2p s a p∨Z2p s a n
 ·rw[if_pos hc] at *
  unfold cg at *
  have h1:=Int.lt_of_mul_lt_mul_right h (Int.le_of_lt hp)
  exact Int.mul_le_mul_of_nonneg_right (by omega) (Int.le_of_lt hp)
 ·rw[if_neg hc] at *
  by_cases h2:(b.f0-1)*stp s<a
  ·rcases hl with rfl | rfl
   ·exact absurd (.inl ⟨b,hb,h2,h⟩) hc
   ·exact absurd (.inr ⟨b,hb,h2,h⟩) hc
  ·omega
theorem zAt_range {s a:Int} {p n:List Z2} (hp:∀ b∈p,InS s b.f0) (hn:∀ b∈n,InS s b.f0) (ha:a = -524288∨(-262144<a∧a≤262144)):zAt s a p n = -524288∨(-262144<zAt s a p n∧zAt s a p n≤262144):=by
 unfold zAt
 split
 ·rename_i h
  rcases h with ⟨b,hb,h1,h2⟩ | ⟨b,hb,h1,h2⟩
  ·rw[cg_eq h1 (by omega)];exact .inr (hp b hb)
  ·rw[cg_eq h1 (by omega)];exact .inr (hn b hb)
 ·exact ha
structure Swal (h:Ze) (p n:List Z2) (a:Int) (r:Ze):Prop where
 valid:Z1q r
 fits:Fits r
 kind:r.f0=h.f0
 schema:r.f1=h.f1
 zeroAt:r.f2=zAt h.f1 a p n
 zero:r.f3=h.f3+cnt (Z4c h.f1 (zAt h.f1 a p n) p)+cnt (Z4c h.f1 (zAt h.f1 a p n) n)
 sum:r.f5=h.f5
 tpos:∀ i,tot r.f6 i=if Z8n h.f1 (zAt h.f1 a p n) i=true then tot p i else 0
 tneg:∀ i,tot r.f7 i=if Z8n h.f1 (zAt h.f1 a p n) i=true then tot n i else 0
 count:r.f4=cnt p+cnt n+h.f3
theorem Z72 (h:Ze) (p n:List Z2) (a:Int) (hk:h.f0=0∨h.f0=1) (hs:Z0p h.f1) (ha:a = -524288∨(-262144<a∧a≤262144)) (h3:0≤h.f3) (h5:I64 h.f5) (hp:Cs h.f1 p) (hn:Cs h.f1 n) (hpl:p.length≤512) (hnl:n.length≤512)
  (ht:cnt p+cnt n+h.f3<18446744073709551616):∃ r,Z28.f h p n a=some (r,0)∧Swal h p n a r:=by
 have c1:=Z0i hp.nn
 have c2:=Z0i hn.nn
 have d1:cnt (Z3v h.f1 (zAt h.f1 a p n) p)+cnt (Z4c h.f1 (zAt h.f1 a p n) p)=cnt p:=Z52 p _
 have d2:cnt (Z3v h.f1 (zAt h.f1 a p n) n)+cnt (Z4c h.f1 (zAt h.f1 a p n) n)=cnt n:=Z52 n _
 have e1:=Z0i (l:=Z3v h.f1 (zAt h.f1 a p n) p) (fun b hb=>hp.nn b ((List.mem_filter.1 hb).1))
 have e2:=Z0i (l:=Z3v h.f1 (zAt h.f1 a p n) n) (fun b hb=>hn.nn b ((List.mem_filter.1 hb).1))
 have e3:=Z0i (l:=Z4c h.f1 (zAt h.f1 a p n) p) (fun b hb=>hp.nn b ((List.mem_filter.1 hb).1))
 have e4:=Z0i (l:=Z4c h.f1 (zAt h.f1 a p n) n) (fun b hb=>hn.nn b ((List.mem_filter.1 hb).1))
 have hb:∀ l,(l=p∨l=n)→Cs h.f1 l→Bs h.f1 (zAt h.f1 a p n) (Z3v h.f1 (zAt h.f1 a p n) l):=fun l hl hc =>
  ⟨Nat.le_trans (List.length_filter_le _ _) hc.len,fun b hb=>by
   obtain⟨h1,h2⟩:=List.mem_filter.1 hb
   exact⟨hc.ins b h1,Int.le_of_lt (hc.pos b h1),kept_low hl h1 (by simpa using h2)⟩⟩
 obtain⟨r,g1,g2,g3,g4,g5,g6,g7,g8,g9,g10,g11⟩:=Z79 (⟨h.f0,h.f1,zAt h.f1 a p n,h.f3+cnt (Z4c h.f1 (zAt h.f1 a p n) p)+cnt (Z4c h.f1 (zAt h.f1 a p n) n),h.f4,h.f5,h.f6,h.f7⟩:Ze)
  (Z3v h.f1 (zAt h.f1 a p n) p) (Z3v h.f1 (zAt h.f1 a p n) n) hk hs (zAt_range hp.ins hn.ins ha) (by simp;omega) h5 (hb p (.inl rfl) hp) (hb n (.inr rfl) hn) (by simp only;omega) (fun o ho hto=>by
   rcases hto with hto | hto
   ·exact Nat.le_trans hto.2 (Nat.le_trans (List.length_filter_le _ _) hpl)
   ·exact Nat.le_trans hto.2 (Nat.le_trans (List.length_filter_le _ _) hnl))
 refine⟨r,?_,⟨g2,g3,g4,g5,g6,g7,g8,fun i => ?_,fun i => ?_,?_⟩⟩
 ·have l1:=hp.len
  have l2:=hn.len
  unfold Z28.f
  rw[edge_eq h p a hs (by omega) hp.ins,edge_eq h n a hs (by omega) hn.ins,sb,sb,zAt_max]
  rw[keep_eq p _ h.f1 _ h.f3 _ _ _ _ _ hs (by omega) hp.ins hp.nn h3 (by omega),sb,keep_eq n _ h.f1 _ _ _ _ _ _ _ hs (by omega) hn.ins hn.nn (by simp only;omega) (by simp only;omega),sb,g1]
  rfl
 ·rw[g9];exact Z4w p _ i
 ·rw[g10];exact Z4w n _ i
 ·rw[g11];simp only;omega
end Go.Proofs.YtlclecehlekjoaaGreat.PvGK
set_option linter.unusedVariables false
set_option linter.unusedSimpArgs false
namespace Go.Proofs.YtlclecehlekjoaaGreat.PvGK
open Go Go.Pv Go.Pv.GS Go.IntKind
open Classical
def rat (f t:Int):Int:=2 ^ (f-t).toNat
theorem rat_pos (f t:Int):0<rat f t:=Int.pow_pos (by omega)
theorem stp_rat {f t:Int} (h1:t≤f) (h2:f≤8):stp t=stp f*rat f t:=by
 unfold stp rat
 rw[← Int.pow_add];congr 1;omega
def upI (f t i:Int):Int:=-((-i) / rat f t)
theorem upI_spec (f t i:Int):(upI f t i-1)*rat f t<i∧i≤upI f t i*rat f t:=by
 have hp:=rat_pos f t
 unfold upI
 generalize rat f t=r at *
 have e1:=Int.ediv_mul_le (-i) (show r≠0 by omega)
 have e2:=Int.lt_ediv_add_one_mul_self (-i) hp
 generalize (-i) / r=q at *
 rw[Int.add_mul] at e2
 constructor
 ·rw[Int.sub_mul,Int.neg_mul];omega
 ·rw[Int.neg_mul];omega
theorem upI_in {f t i:Int} (hf:Z0p f) (ht:Z0p t) (h:t≤f) (hi:InS f i):InS t (upI f t i):=by
 obtain⟨h3,h4⟩:=upI_spec f t i
 have hst:=stp_rat h hf.2
 have hp:=Z3t f
 have hd:=stp_dvd ht
 have hr:=rat_pos f t
 obtain⟨i1,i2⟩:=hi
 constructor
 ·rw[hst,Int.mul_comm (stp f),← Int.mul_assoc]
  have:=Int.mul_le_mul_of_nonneg_right h4 (Int.le_of_lt hp);omega
 ·
  generalize hQ:262144 / stp t=Q at hd
  have hi3:i*stp f≤Q*rat f t*stp f:=by rw[Int.mul_assoc,Int.mul_comm (rat f t),← hst,hd];exact i2
  have hi4:=Int.le_of_mul_le_mul_right hi3 hp
  have:=Int.lt_of_mul_lt_mul_right (show(upI f t i-1)*rat f t<Q*rat f t by omega) (Int.le_of_lt hr)
  have:=Int.mul_le_mul_of_nonneg_right (show upI f t i≤Q by omega) (Int.le_of_lt (Z3t t))
  omega
theorem to_eq {f t i:Int} (hf:Z0p f) (ht:Z0p t) (h:t≤f) (hi:InS f i):Z3x.f f t i=some (upI f t i,0):=by
 have hs:=Z2s hi
 have h1:=hf.1
 have h2:=hf.2
 have h3:=ht.1
 have h4:=ht.2
 unfold Z3x.f Z5v.f
 rw[Z4t hf,sb,if_neg (by simp),Z4t ht,sb,if_neg (by simp),sb,if_neg (by simp;omega),in_T hf,sb,if_neg (by simp[hi]),chkB (u64_wrap _).1,sb]
 rw[Zl (n:=f-t) (by omega) (by omega),Z7z (by omega) (by omega),Zl (n:=0-i) (by omega) (by omega)]
 have e:min (f-t).toNat 64=(f-t).toNat:=by omega
 rw[e,Int.fdiv_eq_ediv_of_nonneg _ (Int.le_of_lt (Int.pow_pos (by omega)))]
 have:(0-i) / 2 ^ (f-t).toNat = -upI f t i:=by unfold upI rat;rw[Int.zero_sub];omega
 rw[this]
 have hj:=Z2s (upI_in hf ht h hi)
 rw[Zl (by omega) (by omega)]
 congr 2;omega
def Z4d (f t:Int) (l:List Z2):List Z2:=l.map (fun b=>⟨upI f t b.f0,b.f1⟩)
theorem Z4l (f t:Int) (l:List Z2):(Z4d f t l).length=l.length:=by simp[Z4d]
theorem Z3n (f t:Int) (l:List Z2):cnt (Z4d f t l)=cnt l:=by simp[cnt,Z4d,Function.comp_def]
theorem down_l0 (l:List Z2) (f t:Int) (hf:Z0p f) (ht:Z0p t) (h:t≤f) (hl:l.length<1000000) (hi:∀ b∈l,InS f b.f0):∀ (suf pre o:List Z2) (i:Int),l=pre++suf→i=(pre.length:Int)→o.length=pre.length →
  Z1j.l0 l f t o i=some (o++Z4d f t suf):=by
 intro suf
 induction suf with
 | nil =>
  intro pre o i h1 hi0 _
  subst h1
  rw[Z1j.l0,if_neg (by simp[hi0])]
  simp[Z4d]
 | cons x suf ih =>
  intro pre o i h1 hi0 ho
  have hx:=hi x (by rw[h1];simp)
  have hlen:(l.length:Int)=pre.length+(suf.length+1):=by rw[h1];simp
  rw[Z1j.l0,if_pos (by simp;omega),Z10 h1 hi0,sb,to_eq hf ht h hx,sb,chkB (by simp;omega),Zl (by omega) (by omega)]
  rw[ih (pre++[x]) _ (i+1) (by simp[h1]) (by simp;omega) (by simp;omega)]
  simp[Z4d]
theorem down_eq (l:List Z2) (f t:Int) (hf:Z0p f) (ht:Z0p t) (h:t≤f) (hl:l.length<1000000) (hi:∀ b∈l,InS f b.f0):Z1j.f l f t=some (Z4d f t l):=by
 unfold Z1j.f
 rw[down_l0 l f t hf ht h hl hi l [] [] 0 rfl rfl rfl];simp
def h0:Ze:=⟨0,0,0,0,0,0,[],[]⟩
theorem Z3e {s z:Int} {l:List Z2} (h:Side s z l):Cs s l:=⟨by have:=h.len;omega,fun b hb=>(h.ok b hb).ins,fun b hb=>(h.ok b hb).pos⟩
theorem Z8h {f t:Int} {l:List Z2} (hf:Z0p f) (ht:Z0p t) (h:t≤f) (hc:Cs f l):Cs t (Z4d f t l) :=
 ⟨by rw[Z4l];exact hc.len,fun b hb=>by
  obtain⟨x,hx,rfl⟩:=List.mem_map.1 hb
  exact upI_in hf ht h (hc.ins x hx),fun b hb=>by
  obtain⟨x,hx,rfl⟩:=List.mem_map.1 hb
  exact hc.pos x hx⟩
structure Cut (a:Ze) (s z:Int) (r:Ze):Prop where
 valid:Z1q r
 fits:Fits r
 kind:r.f0=a.f0
 schema:r.f1=s
 zeroAt:r.f2=z
 count:r.f4=a.f4
 sum:r.f5=a.f5
 tpos:∀ i,tot r.f6 i=if Z8n s z i=true then tot (Z4d a.f1 s a.f6) i else 0
 tneg:∀ i,tot r.f7 i=if Z8n s z i=true then tot (Z4d a.f1 s a.f7) i else 0
theorem hist_ext {a b:Ze} (e0:a.f0=b.f0) (e1:a.f1=b.f1) (e2:a.f2=b.f2) (e3:a.f3=b.f3) (e4:a.f4=b.f4) (e5:a.f5=b.f5) (e6:a.f6=b.f6) (e7:a.f7=b.f7):a=b:=by
 cases a;cases b;simp_all
theorem Down_eq (a:Ze) (s:Int) (hv:Z1q a) (hf:Fits a) (hs:Z0p s) (hle:s≤a.f1) :
  ∃ r,Z1p.f a s=some (r,0)∧Cut a s (zAt s a.f2 (Z4d a.f1 s a.f6) (Z4d a.f1 s a.f7)) r:=by
 have l1:=hv.pos.len
 have l2:=hv.neg.len
 have h1:=hv.count
 have h2:=hv.total
 obtain⟨r,e,h⟩:=Z72 (⟨a.f0,s,a.f2,a.f3,a.f4,a.f5,a.f6,a.f7⟩:Ze) (Z4d a.f1 s a.f6) (Z4d a.f1 s a.f7) a.f2 hv.kind hs hv.zero hf.zero.1 hf.sum (Z8h hv.schema hs hle (Z3e hv.pos)) (Z8h hv.schema hs hle (Z3e hv.neg))
  (by rw[Z4l];exact l1) (by rw[Z4l];exact l2) (by rw[Z3n,Z3n];exact h2)
 refine⟨r,?_,⟨h.valid,h.fits,h.kind,h.schema,h.zeroAt,by rw[h.count,Z3n,Z3n];exact h1.symm,h.sum,h.tpos,h.tneg⟩⟩
 unfold Z1p.f
 rw[Z4t hs,sb,if_neg (by simp),sb,if_neg (by simp;omega),down_eq a.f6 a.f1 s hv.schema hs hle (by omega) (Z3e hv.pos).ins,down_eq a.f7 a.f1 s hv.schema hs hle (by omega) (Z3e hv.neg).ins,sb,sb,e]
 rfl
theorem Down_bad (a:Ze) (s:Int) (h:¬ (Z0p s∧s≤a.f1)):Z1p.f a s=some (h0,20):=by
 unfold Z1p.f
 by_cases hs:Z0p s
 ·rw[Z4t hs,sb,if_neg (by simp),sb,if_pos (by simp;have:¬ s≤a.f1:=fun q=>h ⟨hs,q⟩;omega)];rfl
 ·rw[right_F hs,sb,if_pos (by simp),sb,if_pos rfl];rfl
theorem clone_eq (a:Ze) (h1:a.f6.length<1000000000) (h2:a.f7.length<1000000000):Z38.f a=some a:=by
 unfold Z38.f
 rw[Z7c _ h1,Z7c _ h2];rfl
theorem Z3y (a:Ze) (z:Int) (hv:Z1q a) (hf:Fits a) (hz : -262144<z∧z≤262144) (hlt:a.f2<z) :
  ∃ r,Z0x.f a z=some (r,0)∧Swal a a.f6 a.f7 z r:=by
 obtain⟨r,e,h⟩:=Z72 a a.f6 a.f7 z hv.kind hv.schema (.inr hz) hf.zero.1 hf.sum (Z3e hv.pos) (Z3e hv.neg) hv.pos.len hv.neg.len hv.total
 refine⟨r,?_,h⟩
 unfold Z0x.f
 rw[if_neg (by simp;omega),if_neg (by simp;omega),if_neg (by simp;omega),sb,if_neg (by simp;omega),e];rfl
theorem Z3d (a:Ze) (hv:Z1q a):Z0x.f a a.f2=some (a,0):=by
 have l1:=hv.pos.len
 have l2:=hv.neg.len
 unfold Z0x.f
 rw[if_neg (by simp),if_pos (by simp),clone_eq a (by omega) (by omega)];rfl
theorem Z8p (a:Ze) (z:Int) (h:z<a.f2∨(z≠a.f2∧¬ (-262144<z∧z≤262144))):Z0x.f a z=some (h0,31):=by
 unfold Z0x.f
 by_cases h1:z<a.f2
 ·rw[if_pos (by simpa using h1)];rfl
 ·rw[if_neg (by simpa using h1)]
  have h2:=h.resolve_left h1
  rw[if_neg (by simpa using h2.1)]
  have:((if(decide (z≤(-262144)))=true then(some true) else(some (decide (z>(262144:Int))))):Option (Bool))=some true:=by
   by_cases h3:z ≤ -262144
   ·rw[if_pos (by simpa using h3)]
   ·rw[if_neg (by simpa using h3)];simp;omega
  rw[this,sb,if_pos rfl];rfl
theorem Cut.widen {a r r':Ze} {s z z':Int} (h:Cut a s z r) (hz:z≤z') (hw:Swal r r.f6 r.f7 z' r'):Cut a s (zAt s z' r.f6 r.f7) r':=by
 have hle:=zAt_le s z' r.f6 r.f7
 have hc:=h.valid.count
 have key:∀ i (u v:Int),u=(if Z8n s z i=true then v else 0)→(if Z8n s (zAt s z' r.f6 r.f7) i=true then u else 0)=if Z8n s (zAt s z' r.f6 r.f7) i=true then v else 0:=by
  intro i u v hu
  by_cases h1:zAt s z' r.f6 r.f7<i*stp s
  ·simp only[decide_eq_true_eq]
   rw[if_pos h1,if_pos h1,hu];simp only[decide_eq_true_eq];rw[if_pos (by omega)]
  ·simp only[decide_eq_true_eq];rw[if_neg h1,if_neg h1]
 have hs:=h.schema
 refine⟨hw.valid,hw.fits,hw.kind.trans h.kind,hw.schema.trans hs,?_,?_,hw.sum.trans h.sum,fun i => ?_,fun i => ?_⟩
 ·rw[hw.zeroAt,hs]
 ·rw[hw.count,← h.count,hc]
 ·rw[hw.tpos i,hs];exact key i _ _ (h.tpos i)
 ·rw[hw.tneg i,hs];exact key i _ _ (h.tneg i)
theorem Z58 {s a:Int} {l:List Z2}:¬ Z2p s (cg s a) l:=by
 rintro⟨b,hb,h1,h2⟩
 have hp:=Int.le_of_lt (Z3t s)
 unfold cg at *
 have:=Int.lt_of_mul_lt_mul_right h1 hp
 have:=Int.lt_of_mul_lt_mul_right h2 hp
 omega
theorem zAt_no {s a:Int} {p n:List Z2} (h1:¬ Z2p s a p) (h2:¬ Z2p s a n):zAt s a p n=a:=by
 unfold zAt;rw[if_neg (by rintro(h | h)<;>contradiction)]
theorem zAt_or (s a:Int) (p n:List Z2):zAt s a p n=a∧¬ Z2p s a p∧¬ Z2p s a n∨zAt s a p n=cg s a:=by
 unfold zAt
 by_cases h:Z2p s a p∨Z2p s a n
 ·exact .inr (if_pos h)
 ·exact .inl ⟨if_neg h,fun q=>h (.inl q),fun q=>h (.inr q)⟩
end Go.Proofs.YtlclecehlekjoaaGreat.PvGK
set_option linter.unusedVariables false
set_option linter.unusedSimpArgs false
namespace Go.Proofs.YtlclecehlekjoaaGreat.PvGK
open Go Go.Pv Go.Pv.GS Go.IntKind
open Classical
theorem Z97 (a b p q:Ze) (s zp zq:Int) (hp:Cut a s zp p) (hq:Cut b s zq q) :
  ∃ p' q' z,         Z07.l0 (p.f0,p.f1,p.f2,p.f3,p.f4,p.f5,p.f6,p.f7,q.f0,q.f1,q.f2,q.f3,q.f4,q.f5,q.f6,q.f7)=some (.inr (p'.f0,p'.f1,p'.f2,p'.f3,p'.f4,p'.f5,p'.f6,p'.f7,q'.f0,q'.f1,q'.f2,q'.f3,q'.f4,q'.f5,q'.f6,q'.f7)) ∧
   Cut a s z p'∧Cut b s z q'∧z=(if zp<zq then zAt s zq p.f6 p.f7 else if zq<zp then zAt s zp q.f6 q.f7 else zp):=by
 have done:∀ (p q:Ze) (z:Int),p.f2=z→q.f2=z→Z07.l0 (p.f0,p.f1,p.f2,p.f3,p.f4,p.f5,p.f6,p.f7,q.f0,q.f1,q.f2,q.f3,q.f4,q.f5,q.f6,q.f7)=some (.inr (p.f0,p.f1,p.f2,p.f3,p.f4,p.f5,p.f6,p.f7,q.f0,q.f1,q.f2,q.f3,q.f4,q.f5,q.f6,q.f7)):=by
  intro p q z h1 h2
  rw[Z07.l0]
  (try simp only[])
  rw[if_neg (by simp[h1,h2])]
 have step:∀ (p q p' q':Ze),p.f2≠q.f2→Z0x.f p (if q.f2>p.f2 then q.f2 else p.f2)=some (p',0)→Z0x.f q (if q.f2>p.f2 then q.f2 else p.f2)=some (q',0) →
   Z07.l0 (p.f0,p.f1,p.f2,p.f3,p.f4,p.f5,p.f6,p.f7,q.f0,q.f1,q.f2,q.f3,q.f4,q.f5,q.f6,q.f7)=Z07.l0 (p'.f0,p'.f1,p'.f2,p'.f3,p'.f4,p'.f5,p'.f6,p'.f7,q'.f0,q'.f1,q'.f2,q'.f3,q'.f4,q'.f5,q'.f6,q'.f7):=by
  intro p q p' q' hne h1 h2
  conv=>lhs;rw[Z07.l0]
  (try simp only[])
  rw[if_pos (by simpa using hne),h1,sb,h2,sb,if_neg (by simp)]
 have rng:∀ (u:Ze) (z:Int),Z1q u→z<u.f2→(z = -524288∨(-262144<z∧z≤262144)) → -262144<u.f2∧u.f2≤262144:=by
  intro u z hu hlt hz
  rcases hu.zero with h | h
  ·rcases hz with h' | h'<;>omega
  ·exact h
 by_cases h1:zp<zq
 ·have hz:=rng q zp hq.valid (by rw[hq.zeroAt];exact h1) (hp.zeroAt ▸ hp.valid.zero)
  rw[hq.zeroAt] at hz
  obtain⟨p1,e1,w1⟩:=Z3y p zq hp.valid hp.fits hz (by rw[hp.zeroAt];exact h1)
  have c1:=hp.widen (by omega) w1
  have es:=step p q p1 q (by rw[hp.zeroAt,hq.zeroAt];omega) (by rw[hp.zeroAt,hq.zeroAt,if_pos h1];exact e1) (by rw[hp.zeroAt,hq.zeroAt,if_pos h1];have:=Z3d q hq.valid;rw[hq.zeroAt] at this;exact this)
  rw[es,if_pos h1]
  rcases zAt_or s zq p.f6 p.f7 with ⟨hA,_⟩ | hA
  ·exact⟨p1,q,zq,done p1 q zq (by rw[c1.zeroAt,hA]) hq.zeroAt,hA ▸ c1,hq,hA.symm⟩
  ·by_cases heq:zAt s zq p.f6 p.f7=zq
   ·exact⟨p1,q,zq,done p1 q zq (by rw[c1.zeroAt,heq]) hq.zeroAt,heq ▸ c1,hq,heq.symm⟩
   have hgt:zq<zAt s zq p.f6 p.f7:=by have:=zAt_le s zq p.f6 p.f7;omega
   have hz2:=rng p1 zq c1.valid (by rw[c1.zeroAt];exact hgt) (.inr hz)
   rw[c1.zeroAt] at hz2
   obtain⟨q1,e2,w2⟩:=Z3y q (zAt s zq p.f6 p.f7) hq.valid hq.fits hz2 (by rw[hq.zeroAt];exact hgt)
   have c2:=hq.widen (by omega) w2
   have hno:zAt s (zAt s zq p.f6 p.f7) q.f6 q.f7=zAt s zq p.f6 p.f7:=by rw[hA];exact zAt_no Z58 Z58
   rw[hno] at c2
   have es2:=step p1 q p1 q1 (by rw[c1.zeroAt,hq.zeroAt];omega) (by rw[c1.zeroAt,hq.zeroAt,if_neg (by omega)];have:=Z3d p1 c1.valid;rw[c1.zeroAt] at this;exact this) (by rw[c1.zeroAt,hq.zeroAt,if_neg (by omega)];exact e2)
   rw[es2]
   exact⟨p1,q1,_,done p1 q1 _ c1.zeroAt c2.zeroAt,c1,c2,rfl⟩
 ·by_cases h2:zq<zp
  ·have hz:=rng p zq hp.valid (by rw[hp.zeroAt];exact h2) (hq.zeroAt ▸ hq.valid.zero)
   rw[hp.zeroAt] at hz
   obtain⟨q1,e1,w1⟩:=Z3y q zp hq.valid hq.fits hz (by rw[hq.zeroAt];exact h2)
   have c1:=hq.widen (by omega) w1
   have es:=step p q p q1 (by rw[hp.zeroAt,hq.zeroAt];omega) (by rw[hp.zeroAt,hq.zeroAt,if_neg h1];have:=Z3d p hp.valid;rw[hp.zeroAt] at this;exact this) (by rw[hp.zeroAt,hq.zeroAt,if_neg h1];exact e1)
   rw[es,if_neg h1,if_pos h2]
   rcases zAt_or s zp q.f6 q.f7 with ⟨hA,_⟩ | hA
   ·exact⟨p,q1,zp,done p q1 zp hp.zeroAt (by rw[c1.zeroAt,hA]),hp,hA ▸ c1,hA.symm⟩
   ·by_cases heq:zAt s zp q.f6 q.f7=zp
    ·exact⟨p,q1,zp,done p q1 zp hp.zeroAt (by rw[c1.zeroAt,heq]),hp,heq ▸ c1,heq.symm⟩
    have hgt:zp<zAt s zp q.f6 q.f7:=by have:=zAt_le s zp q.f6 q.f7;omega
    have hz2:=rng q1 zp c1.valid (by rw[c1.zeroAt];exact hgt) (.inr hz)
    rw[c1.zeroAt] at hz2
    obtain⟨p1,e2,w2⟩:=Z3y p (zAt s zp q.f6 q.f7) hp.valid hp.fits hz2 (by rw[hp.zeroAt];exact hgt)
    have c2:=hp.widen (by omega) w2
    have hno:zAt s (zAt s zp q.f6 q.f7) p.f6 p.f7=zAt s zp q.f6 q.f7:=by rw[hA];exact zAt_no Z58 Z58
    rw[hno] at c2
    have es2:=step p q1 p1 q1 (by rw[c1.zeroAt,hp.zeroAt];omega) (by rw[c1.zeroAt,hp.zeroAt,if_pos (by omega)];exact e2) (by rw[c1.zeroAt,hp.zeroAt,if_pos (by omega)];have:=Z3d q1 c1.valid;rw[c1.zeroAt] at this;exact this)
    rw[es2]
    exact⟨p1,q1,_,done p1 q1 _ c2.zeroAt c1.zeroAt,c2,c1,rfl⟩
  ·have:zp=zq:=by omega
   subst this
   rw[if_neg h1,if_neg h2]
   exact⟨p,q,zp,done p q zp hp.zeroAt hq.zeroAt,hp,hq,rfl⟩
theorem Alike_eq (a b:Ze) (ha:Z1q a) (fa:Fits a) (hb:Z1q b) (fb:Fits b) :
  ∃ p0 q0 p q s z,s=(if b.f1<a.f1 then b.f1 else a.f1) ∧         Z1p.f a s=some (p0,0) ∧         Z1p.f b s=some (q0,0)∧Cut a s p0.f2 p0∧Cut b s q0.f2 q0 ∧          Z07.f a b=some (p,q,0)∧Cut a s z p∧Cut b s z q ∧
   z=(if p0.f2<q0.f2 then zAt s q0.f2 p0.f6 p0.f7 else if q0.f2<p0.f2 then zAt s p0.f2 q0.f6 q0.f7 else p0.f2):=by
 have hs:Z0p (if b.f1<a.f1 then b.f1 else a.f1):=by split;exact hb.schema;exact ha.schema
 obtain⟨p0,e1,c1⟩:=Down_eq a _ ha fa hs (by split<;>omega)
 obtain⟨q0,e2,c2⟩:=Down_eq b _ hb fb hs (by split<;>omega)
 have c1':=c1
 have c2':=c2
 rw[← c1.zeroAt] at c1'
 rw[← c2.zeroAt] at c2'
 obtain⟨p,q,z,el,cp,cq,hz⟩:=Z97 a b p0 q0 _ _ _ c1' c2'
 refine⟨p0,q0,p,q,_,z,rfl,e1,e2,c1',c2',?_,cp,cq,hz⟩
 unfold Z07.f
 rw[e1,sb,e2,sb,if_neg (by simp)]
 simp only[]
 rw[el]
 rfl
end Go.Proofs.YtlclecehlekjoaaGreat.PvGK
