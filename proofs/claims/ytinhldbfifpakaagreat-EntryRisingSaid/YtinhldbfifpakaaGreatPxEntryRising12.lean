import Derived.Test.YtinhldbfifpakaaGreatPxEntryRising11
set_option linter.unusedVariables false
set_option linter.unusedSimpArgs false
namespace Go.Proofs.YtinhldbfifpakaaGreat.PvGL
open Go Go.Pv Go.Pv.GS Go.IntKind
theorem num_add_l0 (l:List Int) (hl:l.length<4611686018427387904):∀ (suf pre:List Int) (acc i:Int),l=pre++suf→i=(pre.length:Int)→U64 acc→(∀ x∈suf,U64 x) →
  Z2e.l0 l acc i=some (if acc+suf.sum<18446744073709551616 then .inr (acc+suf.sum) else .inl (0,5)):=by
 intro suf
 induction suf with
 | nil =>
  intro pre acc i h1 hi ha hs
  subst h1
  rw[Z2e.l0,if_neg (by simp[hi])]
  simp[ha.2]
 | cons x suf ih =>
  intro pre acc i h1 hi ha hs
  have hx:=hs x (by simp)
  have hs':∀ y∈suf,U64 y:=fun y hy=>hs y (by simp[hy])
  have hnn:0≤suf.sum:=Z4u (fun y hy=>(hs' y hy).1)
  rw[Z2e.l0,if_pos (by rw[h1];simp[hi];omega)]
  rw[Z4q h1 hi,sb,chkB ⟨ha.1,hx.1,by omega,by omega⟩]
  have hlen:(l.length:Int)=pre.length+(suf.length+1):=by rw[h1];simp
  by_cases hov:acc+x<18446744073709551616
  ·rw[if_neg (by simp;omega),Z2x    (by omega) (by omega),show(acc+x+0) % 18446744073709551616=acc+x by omega]
   rw[ih (pre++[x]) (acc+x) (i+1) (by simp[h1]) (by simp;omega) ⟨by omega,hov⟩ hs']
   rw[List.sum_cons,Int.add_assoc]
  ·rw[if_pos (by simp;omega),if_neg (by rw[List.sum_cons];omega)]
theorem num_add (l:List Int) (hl:l.length<4611686018427387904) (h:∀ x∈l,U64 x) :
  Z2e.f l=some (if l.sum<18446744073709551616 then(l.sum,0) else(0,5)):=by
 unfold Z2e.f
 rw[num_add_l0 l hl l [] 0 0 rfl rfl (by omega) h,sb,Int.zero_add]
 by_cases h:l.sum<18446744073709551616
 ·rw[if_pos h,if_pos h]
 ·rw[if_neg h,if_neg h]
theorem num_add2 {a b:Int} (ha:U64 a) (hb:U64 b):Z2e.f [a,b]=some (if a+b<18446744073709551616 then(a+b,0) else(0,5)):=by
 rw[num_add [a,b] (by simp) (by simp;exact⟨ha,hb⟩)]
 simp
end Go.Proofs.YtinhldbfifpakaaGreat.PvGL
set_option linter.unusedVariables false
set_option linter.unusedSimpArgs false
namespace Go.Proofs.YtinhldbfifpakaaGreat.PvGL
open Go Go.Pv Go.Pv.GS Go.IntKind
def tot:List Z9→Int→Int
 | [],_=>0
 | b::l,i=>(if b.f0=i then b.f1 else 0)+tot l i
abbrev Nn (l:List Z9):Prop:=∀ b∈l,0≤b.f1
structure Canon (l:List Z9):Prop where
 up:l.Pairwise (fun a b=>a.f0<b.f0)
 pos:∀ b∈l,0<b.f1
structure TidyI (pre out:List Z9):Prop where
 canon:Canon out
 seen:∀ o∈out,∃ p∈pre,p.f0=o.f0
 tots:∀ i,tot out i=tot pre i
 u64:∀ o∈out,U64 o.f1
 len:out.length≤pre.length
end Go.Proofs.YtinhldbfifpakaaGreat.PvGL
set_option linter.unusedVariables false
set_option linter.unusedSimpArgs false
namespace Go.Proofs.YtinhldbfifpakaaGreat.PvGL
open Go Go.Pv Go.Pv.GS Go.IntKind
def cnt (l:List Z9):Int:=(l.map (·.f1)).sum
theorem Z7c {l:List Z9} (h:Nn l):0≤cnt l:=Z4u (fun x hx=>by
 obtain⟨b,hb,rfl⟩:=List.mem_map.1 hx;exact h b hb)
theorem cnt_cons (b:Z9) (l:List Z9):cnt (b::l)=b.f1+cnt l:=by simp[cnt]
theorem total_l1 (a0:List (List Z9)) (x769:Int) (l:List Z9) (hl:l.length<1000000000):∀ (suf pre:List Z9) (acc i:Int),l=pre++suf→i=(pre.length:Int)→U64 acc→(∀ b∈suf,U64 b.f1) →
  Z0w.l1 a0 l x769 acc i=some (if acc+cnt suf<18446744073709551616 then .inr (acc+cnt suf) else .inl (0,5)):=by
 intro suf
 induction suf with
 | nil =>
  intro pre acc i h1 hi ha hs
  subst h1
  rw[Z0w.l1,if_neg (by simp[hi])]
  simp[cnt,ha.2]
 | cons x suf ih =>
  intro pre acc i h1 hi ha hs
  have hx:=hs x (by simp)
  have hs':∀ y∈suf,U64 y.f1:=fun y hy=>hs y (by simp[hy])
  have hnn:0≤cnt suf:=Z7c (fun y hy=>(hs' y hy).1)
  have hlen:(l.length:Int)=pre.length+(suf.length+1):=by rw[h1];simp
  rw[Z0w.l1,if_pos (by simp;omega),Z4q h1 hi,sb,num_add2 ha hx,sb,Z2x (by omega) (by omega),cnt_cons]
  by_cases hov:acc+x.f1<18446744073709551616
  ·rw[if_pos hov,if_neg (by simp),ih (pre++[x]) (acc+x.f1) (i+1) (by simp[h1]) (by simp;omega) ⟨by omega,hov⟩ hs',Int.add_assoc]
  ·rw[if_neg hov,if_pos (by simp),if_neg (by omega)]
theorem total_l0 (a0:List (List Z9)) (ha0:a0.length<1000000000):∀ (suf pre:List (List Z9)) (acc i:Int),a0=pre++suf→i=(pre.length:Int)→U64 acc→(∀ l∈suf,l.length<1000000000∧∀ b∈l,U64 b.f1) →
  Z0w.l0 a0 acc i=some (if acc+(suf.map cnt).sum<18446744073709551616 then .inr (acc+(suf.map cnt).sum) else .inl (0,5)):=by
 intro suf
 induction suf with
 | nil =>
  intro pre acc i h1 hi ha hs
  subst h1
  rw[Z0w.l0,if_neg (by simp[hi])]
  simp[ha.2]
 | cons x suf ih =>
  intro pre acc i h1 hi ha hs
  have hx:=hs x (by simp)
  have hs':∀ l∈suf,l.length<1000000000∧∀ b∈l,U64 b.f1:=fun y hy=>hs y (by simp[hy])
  have hx0:0≤cnt x:=Z7c (fun y hy=>(hx.2 y hy).1)
  have hnn:0≤(suf.map cnt).sum:=Z4u (fun y hy=>by
   obtain⟨l,hl,rfl⟩:=List.mem_map.1 hy;exact Z7c (fun y hy=>((hs' l hl).2 y hy).1))
  have hlen:(a0.length:Int)=pre.length+(suf.length+1):=by rw[h1];simp
  rw[Z0w.l0,if_pos (by simp;omega),Z4q h1 hi,sb,total_l1 a0 i x hx.1 x [] acc 0 rfl rfl ha hx.2,sb,Z2x (by omega) (by omega),List.map_cons,List.sum_cons]
  by_cases hov:acc+cnt x<18446744073709551616
  ·rw[if_pos hov]
   simp only[]
   rw[ih (pre++[x]) (acc+cnt x) (i+1) (by simp[h1]) (by simp;omega) ⟨by omega,hov⟩ hs',Int.add_assoc]
  ·rw[if_neg hov,if_neg (by omega)]
theorem total3 (p n:List Z9) (z:Int) (hp:p.length<1000000000) (hn:n.length<1000000000) (hpU:∀ b∈p,U64 b.f1) (hnU:∀ b∈n,U64 b.f1) (hz:U64 z) :
  Z0w.f [p,n,[(⟨0,z⟩:Z9)]]=some (if cnt p+cnt n+z<18446744073709551616 then(cnt p+cnt n+z,0) else(0,5)):=by
 unfold Z0w.f
 rw[total_l0 [p,n,[(⟨0,z⟩:Z9)]] (by simp) [p,n,[(⟨0,z⟩:Z9)]] [] 0 0 rfl rfl (by omega) (by
  intro l hl
  simp only[List.mem_cons,List.not_mem_nil,or_false] at hl
  rcases hl with rfl | rfl | rfl
  ·exact⟨hp,hpU⟩
  ·exact⟨hn,hnU⟩
  ·exact⟨by simp,by simp;exact hz⟩),sb]
 have e:0+(([p,n,[(⟨0,z⟩:Z9)]]:List (List Z9)).map cnt).sum=cnt p+cnt n+z:=by simp[cnt];omega
 rw[e]
 by_cases h:cnt p+cnt n+z<18446744073709551616
 ·rw[if_pos h,if_pos h]
 ·rw[if_neg h,if_neg h]
theorem right_eq (s:Int):Z0d.f s=some (decide (-4≤s)&&decide (s≤8)):=by
 unfold Z0d.f
 rw[ifand];rfl
def Z3j (s:Int):Prop:=-4≤s∧s≤8
instance (s:Int):Decidable (Z3j s):=inferInstanceAs (Decidable (_∧_))
theorem Z75 {s:Int} (h:Z3j s):Z0d.f s=some true:=by rw[right_eq];simp[h.1,h.2]
theorem right_F {s:Int} (h:¬ Z3j s):Z0d.f s=some false:=by rw[right_eq];simp[Z3j] at h ⊢;omega
def stp (s:Int):Int:=2 ^ (8-s).toNat
theorem Z73 (s:Int):0<stp s:=by unfold stp;exact Int.pow_pos (by omega)
theorem stp_le {s:Int} (h:Z3j s):stp s≤4096:=by
 have h1:=h.1
 have h2:=h.2
 have:s = -4∨s = -3∨s = -2∨s = -1∨s=0∨s=1∨s=2∨s=3∨s=4∨s=5∨s=6∨s=7∨s=8:=by omega
 rcases this with rfl | rfl | rfl | rfl | rfl | rfl | rfl | rfl | rfl | rfl | rfl | rfl | rfl<;>decide
theorem shift_eq {s:Int} (h:Z3j s):min (Int.toNat (u64.wrap (i64.wrap ((8:Int)-s)))) 64=(8-s).toNat:=by
 have h1:=h.1
 have h2:=h.2
 rw[Z2x (by omega) (by omega),wrapU (by omega) (by omega)];omega
theorem most_T {s:Int} (h:Z3j s):Z3e.f s=some (262144 / stp s):=by
 unfold Z3e.f Z2v.f
 rw[Z75 h,sb,if_neg (by simp),sb,chkB (u64_wrap _).1,shift_eq h,Int.fdiv_eq_ediv_of_nonneg _ (by exact Int.le_of_lt (Z73 s))]
 rfl
theorem units_T {s i:Int} (h:Z3j s) (hi : -1000000000000<i∧i<1000000000000):Z1v.f s i=some (i*stp s):=by
 unfold Z1v.f Z2v.f
 rw[Z75 h,sb,if_neg (by simp),sb,chkB (u64_wrap _).1,shift_eq h]
 have h1:=Z73 s
 have h2:=stp_le h
 have h3:i*stp s≤1000000000000*4096:=by
  by_cases h0:0≤i
  ·exact Int.mul_le_mul (by omega) h2 (by omega) (by omega)
  ·have:i*stp s≤0:=Int.mul_nonpos_of_nonpos_of_nonneg (by omega) (by omega);omega
 have h4 : -(1000000000000*4096)≤i*stp s:=by
  by_cases h0:0≤i
  ·have:0≤i*stp s:=Int.mul_nonneg h0 (by omega);omega
  ·have : -i*stp s≤1000000000000*4096:=Int.mul_le_mul (by omega) h2 (by omega) (by omega)
   rw[Int.neg_mul] at this;omega
 show some (i64.wrap (i*stp s))=_
 rw[Z2x (by omega) (by omega)]
theorem Z6d (h:Z0f):Z0j.l0 h 0=((Z01.f h h.f6)>>=fun t=>if(t != (0:Int))=true then some (.inl t) else(Z01.f h h.f7)>>=fun t=>if(t != (0:Int))=true then some (.inl t) else some (.inr ())):=by
 have w1:i64.wrap (0+1)=1:=by decide
 have w2:i64.wrap (1+1)=2:=by decide
 rw[Z0j.l0,if_pos (by decide),chkB (by omega),if_pos (by decide),sb,w1]
 congr 1
 funext t
 split
 ·rfl
 ·rw[         Z0j.l0,if_pos (by decide),chkB (by omega),if_neg (by decide),sb,w2]
  congr 1
  funext t
  split
  ·rfl
  ·rw[Z0j.l0,if_neg (by decide)]
structure Fits (h:Z0f):Prop where
 kind:I64 h.f0
 schema:I64 h.f1
 zeroAt:I64 h.f2
 zero:U64 h.f3
 count:U64 h.f4
 sum:I64 h.f5
 pos:∀ b∈h.f6,I64 b.f0∧U64 b.f1
 neg:∀ b∈h.f7,I64 b.f0∧U64 b.f1
theorem fits_of {h:Z0f} (r:RHist h):Fits h:=⟨r.r0,r.r1,r.r2,r.r3,r.r4,r.r5,fun b hb=>let q:=r.r6.2 b hb;⟨q.r0,q.r1⟩,fun b hb=>let q:=r.r7.2 b hb;⟨q.r0,q.r1⟩⟩
end Go.Proofs.YtinhldbfifpakaaGreat.PvGL
set_option linter.unusedVariables false
set_option linter.unusedSimpArgs false
namespace Go.Proofs.YtinhldbfifpakaaGreat.PvGL
open Go Go.Pv Go.Pv.GS Go.IntKind
theorem stp_dvd {s:Int} (h:Z3j s):262144 / stp s*stp s=262144:=by
 have h1:=h.1
 have h2:=h.2
 have:s = -4∨s = -3∨s = -2∨s = -1∨s=0∨s=1∨s=2∨s=3∨s=4∨s=5∨s=6∨s=7∨s=8:=by omega
 rcases this with rfl | rfl | rfl | rfl | rfl | rfl | rfl | rfl | rfl | rfl | rfl | rfl | rfl<;>decide
def InS (s i:Int):Prop:=-262144<i*stp s∧i*stp s≤262144
instance (s i:Int):Decidable (InS s i):=inferInstanceAs (Decidable (_∧_))
theorem inS_iff {s i:Int} (h:Z3j s):InS s i ↔ -(262144 / stp s)+1≤i∧i≤262144 / stp s:=by
 have hp:=Z73 s
 have hd:=stp_dvd h
 unfold InS
 generalize 262144 / stp s=q at *
 generalize stp s=st at *
 constructor
 ·rintro⟨h1,h2⟩
  constructor
  ·have : -q*st<i*st:=by rw[Int.neg_mul];omega
   have:=Int.lt_of_mul_lt_mul_right this (Int.le_of_lt hp);omega
  ·have:i*st≤q*st:=by omega
   exact Int.le_of_mul_le_mul_right this hp
 ·rintro⟨h1,h2⟩
  constructor
  ·have:=Int.mul_lt_mul_of_pos_right (show -q<i by omega) hp
   rw[Int.neg_mul] at this;omega
  ·have:=Int.mul_le_mul_of_nonneg_right h2 (Int.le_of_lt hp);omega
theorem Z5q {s i:Int} (hi:InS s i) : -262144<i∧i≤262144:=by
 have hp:=Z73 s
 obtain⟨h1,h2⟩:=hi
 constructor
 ·by_cases h:i ≤ -262144
  ·have:=Int.mul_le_mul_of_nonneg_right h (Int.le_of_lt hp)
   have h3 : -262144*stp s ≤ -262144*1:=by
    have:=Int.mul_le_mul_of_nonneg_left (show 1≤stp s by omega) (show(0:Int)≤262144 by omega)
    omega
   omega
  ·omega
 ·by_cases h:262144<i
  ·have:=Int.mul_le_mul_of_nonneg_right (show 262145≤i by omega) (Int.le_of_lt hp)
   have h3:=Int.mul_le_mul_of_nonneg_left (show 1≤stp s by omega) (show(0:Int)≤262145 by omega)
   omega
  ·omega
theorem in_T {s i:Int} (h:Z3j s):Z3z.f s i=some (decide (InS s i)):=by
 have hp:=Z73 s
 have hq:0≤262144 / stp s∧262144 / stp s≤262144:=⟨Int.ediv_nonneg (by omega) (by omega),Int.ediv_le_self _ (by omega)⟩
 unfold Z3z.f Z3r.f
 rw[Z75 h,most_T h]
 simp only[sb,if_pos]
 rw[Z2x (n:=0-_) (by omega) (by omega),Z2x (by omega) (by omega),ifand,sb]
 congr 1
 rw[← Bool.decide_and,decide_eq_decide,inS_iff h]
 constructor<;>intro h<;>constructor<;>omega
theorem low_T {s i:Int} (h:Z3j s) (hi:InS s i):Z3h.f s i=some ((i-1)*stp s):=by
 have:=Z5q hi
 unfold Z3h.f
 rw[Z2x (by omega) (by omega),units_T h (by omega)];rfl
theorem Z6k (s:Int):Z25.f s=some (decide (Z3j s)):=by
 unfold Z25.f
 rw[ifand,← Bool.decide_and];rfl
theorem ref_step_l0 (s:Int):∀ (n:Nat) (x i:Int),i≤8→8-i=(n:Int) → -4≤i→0≤x→x*2 ^ n≤4096→Z2n.l0 x i=some (x*2 ^ n):=by
 intro n
 induction n with
 | zero=>intro x i h1 h2 h3 h4 h5;rw[Z2n.l0,if_neg (by simp;omega)];simp
 | succ n ih =>
  intro x i h1 h2 h3 h4 h5
  have e:x*2 ^ (n+1)=x*2*2 ^ n:=by rw[Int.pow_succ,Int.mul_assoc,Int.mul_comm 2]
  have hp:(0:Int)<2 ^ n:=Int.pow_pos (by omega)
  have hle:x*2≤4096:=by
   have:=Int.mul_le_mul_of_nonneg_left (show(1:Int)≤2 ^ n by omega) (show 0≤x*2 by omega)
   omega
  rw[Z2n.l0,if_pos (by simp;omega),Z2x (n:=x*2) (by omega) (by omega),Z2x (n:=i+1) (by omega) (by omega),ih (x*2) (i+1) (by omega) (by omega) (by omega) (by omega) (by omega),e]
theorem ref_step {s:Int} (h:Z3j s):Z2n.f s=some (stp s):=by
 unfold Z2n.f
 have h1:=h.1
 have h2:=h.2
 rw[ref_step_l0 s (8-s).toNat 1 s h2 (by omega) h1 (by omega) (by rw[Int.one_mul];exact stp_le h)]
 simp[stp]
theorem Z80 {s i:Int} (h:Z3j s) (hi : -1000000000000<i∧i<1000000000000):Z2o.f s i=some (i*stp s):=by
 unfold Z2o.f
 rw[Z6k,sb,if_neg (by simp[h]),ref_step h,sb]
 have h1:=Z73 s
 have h2:=stp_le h
 have h3:i*stp s≤1000000000000*4096:=by
  by_cases h0:0≤i
  ·exact Int.mul_le_mul (by omega) h2 (by omega) (by omega)
  ·have:i*stp s≤0:=Int.mul_nonpos_of_nonpos_of_nonneg (by omega) (by omega);omega
 have h4 : -(1000000000000*4096)≤i*stp s:=by
  by_cases h0:0≤i
  ·have:0≤i*stp s:=Int.mul_nonneg h0 (by omega);omega
  ·have : -i*stp s≤1000000000000*4096:=Int.mul_le_mul (by omega) h2 (by omega) (by omega)
   rw[Int.neg_mul] at this;omega
 rw[Z2x (by omega) (by omega)]
theorem ref_in {s i:Int} (h:Z3j s) (hi:I64 i):Z5j.f s i=some (decide (InS s i)):=by
 unfold Z5j.f
 rw[Z6k,sb,if_pos (by simp[h])]
 by_cases h1:i > -262144
 ·rw[if_pos (by simpa using h1)]
  by_cases h2:i≤262144
  ·rw[if_pos (by simpa using h2),Z80       h (by omega),sb]
   by_cases h3:i*stp s > -262144
   ·rw[if_pos (by simpa using h3),sb,sb]
    congr 1
    rw[decide_eq_decide]
    exact⟨fun h=>⟨h3,h⟩,fun h=>h.2⟩
   ·rw[if_neg (by simpa using h3),sb]
    have:¬ InS s i:=fun h=>h3 h.1
    simp[this]
  ·rw[if_neg (by simpa using h2),sb]
   have:¬ InS s i:=fun h=>by have:=Z5q h;omega
   simp[this]
 ·rw[if_neg (by simpa using h1),sb]
  have:¬ InS s i:=fun h=>by have:=Z5q h;omega
  simp[this]
end Go.Proofs.YtinhldbfifpakaaGreat.PvGL
set_option linter.unusedVariables false
set_option linter.unusedSimpArgs false
namespace Go.Proofs.YtinhldbfifpakaaGreat.PvGL
open Go Go.Pv Go.Pv.GS Go.IntKind
structure BOk (s z:Int) (b:Z9):Prop where
 ins:InS s b.f0
 pos:0<b.f1
 low:z≤(b.f0-1)*stp s
def Up:Option Int→List Z9→Prop
 | _,[]=>True
 | p,b::l=>(∀ q,p=some q→q<b.f0)∧Up (some b.f0) l
theorem up_iff:∀ (l:List Z9) (p:Option Int),Up p l↔(∀ q,p=some q→∀ b∈l,q<b.f0)∧l.Pairwise (fun a b=>a.f0<b.f0)
 | [],p=>by simp[Up]
 | x::l,p=>by
  rw[Up,up_iff l,List.pairwise_cons]
  constructor
  ·rintro⟨h1,h2,h3⟩
   refine⟨fun q hq b hb => ?_,fun b hb=>h2 _ rfl b hb,h3⟩
   have h4:=h1 q hq
   rcases List.mem_cons.1 hb with rfl | hb
   ·exact h4
   ·have:=h2 _ rfl b hb;omega
  ·rintro⟨h1,h2,h3⟩
   exact⟨fun q hq=>h1 q hq x (by simp),fun q hq b hb=>by cases hq;exact h2 b hb,h3⟩
structure Side (s z:Int) (l:List Z9):Prop where
 len:l.length≤512
 ok:∀ b∈l,BOk s z b
 up:l.Pairwise (fun a b=>a.f0<b.f0)
structure Valid (h:Z0f):Prop where
 kind:h.f0=0∨h.f0=1
 schema:Z3j h.f1
 zero:h.f2 = -524288∨(-262144<h.f2∧h.f2≤262144)
 pos:Side h.f1 h.f2 h.f6
 neg:Side h.f1 h.f2 h.f7
 total:cnt h.f6+cnt h.f7+h.f3<18446744073709551616
 count:h.f4=cnt h.f6+cnt h.f7+h.f3
theorem last_pre {l pre:List Z9} {x:Z9} {suf:List Z9} {i:Int} (h1:l=pre++x::suf) (hi:i=(pre.length:Int)) (h0:0<i) (hl:l.length<1000000000) :
  ∃ q,(pre.getLast?).map (·.f0)=some q∧∃ y,at? l (i64.wrap (i-1))=some y∧y.f0=q:=by
 rcases List.eq_nil_or_concat pre with rfl | ⟨P,p,rfl⟩
 ·simp at hi;omega
 ·simp only[List.concat_eq_append] at *
  have hlen:l.length=P.length+1+(suf.length+1):=by rw[h1];simp;omega
  have hi2:i=(P.length:Int)+1:=by rw[hi];simp
  rw[Z2x (by omega) (by omega)]
  exact⟨p.f0,by simp,p,Z4q (pre:=P) (suf:=x::suf) (by simp[h1]) (by omega),rfl⟩
theorem no_pre {pre:List Z9} {i:Int} (hi:i=(pre.length:Int)) (h0:¬ 0<i):(pre.getLast?).map (·.f0)=none:=by
 have:pre=[]:=List.length_eq_zero_iff.1 (by omega)
 subst this;rfl
theorem buckets_l0 (h:Z0f) (l:List Z9) (hs:Z3j h.f1) (hl:l.length<1000000000):∀ (suf pre:List Z9) (i:Int),l=pre++suf→i=(pre.length:Int)→(∀ b∈suf,U64 b.f1) →
  ∃ r,Z01.l0 h l i=some r∧(∀ c,r = .inl c→c≠0)∧(r = .inr ()↔(∀ b∈suf,BOk h.f1 h.f2 b)∧Up ((pre.getLast?).map (·.f0)) suf):=by
 intro suf
 induction suf with
 | nil =>
  intro pre i h1 hi _
  subst h1
  rw[Z01.l0,if_neg (by simp[hi])]
  exact⟨_,rfl,by simp,by simp[Up]⟩
 | cons x suf ih =>
  intro pre i h1 hi hU
  have hx:=hU x (by simp)
  have hlen:(l.length:Int)=pre.length+(suf.length+1):=by rw[h1];simp
  rw[Z01.l0,if_pos (by simp;omega),Z4q h1 hi,sb,in_T hs,sb]
  by_cases c1:InS h.f1 x.f0
  case neg =>
   rw[if_pos (by simp[c1])]
   exact⟨_,rfl,by simp,by simp;intro h;exact absurd h.ins c1⟩
  rw[if_neg (by simp[c1])]
  have hprev:∃ c:Bool,((if(decide (i>(0:Int)))=true then((at? l (i64.wrap (i-(1:Int))))>>=fun b922=>some (decide (b922.f0≥x.f0))) else(some false)):Option (Bool))=some c∧(c=false↔∀ q,(pre.getLast?).map (·.f0)=some q→q<x.f0):=by
   by_cases h0:0<i
   ·obtain⟨q,e1,y,e2,e3⟩:=last_pre h1 hi h0 hl
    rw[if_pos (by simpa using h0),e2,sb]
    exact⟨_,rfl,by rw[e1,e3];simp⟩
   ·rw[if_neg (by simpa using h0)]
    exact⟨_,rfl,by rw[no_pre hi h0];simp⟩
  obtain⟨c,ec,hc⟩:=hprev
  rw[ec,sb,low_T hs c1]
  cases c with
  | true =>
   rw[if_pos rfl]
   refine⟨_,rfl,by simp,by simp;intro _ _ h2;exact absurd (hc.2 h2.1) (by simp)⟩
  | false =>
   rw[if_neg (by simp)]
   by_cases c2:x.f1=0
   ·rw[if_pos (by simpa using c2)]
    exact⟨_,rfl,by simp,by simp;intro h;have:=h.pos;omega⟩
   rw[if_neg (by simpa using c2),sb]
   by_cases c3:(x.f0-1)*stp h.f1<h.f2
   ·rw[if_pos (by simpa using c3)]
    exact⟨_,rfl,by simp,by simp;intro h;have:=h.low;omega⟩
   rw[if_neg (by simpa using c3),Z2x (n:=i+1) (by omega) (by omega)]
   obtain⟨r,e,e1,e2⟩:=ih (pre++[x]) (i+1) (by simp[h1]) (by simp;omega) (fun b hb=>hU b (by simp[hb]))
   refine⟨r,e,e1,?_⟩
   rw[e2]
   simp only[List.getLast?_append,List.getLast?_singleton,Option.some_or,Option.map_some,Up,List.forall_mem_cons]
   have hb:BOk h.f1 h.f2 x:=⟨c1,by omega,by omega⟩
   constructor
   ·rintro⟨a,b⟩;exact⟨⟨hb,a⟩,hc.1 rfl,b⟩
   ·rintro⟨⟨_,a⟩,_,b⟩;exact⟨a,b⟩
theorem Z6e (h:Z0f) (l:List Z9) (hs:Z3j h.f1) (hl:l.length<1000000000) (hU:∀ b∈l,U64 b.f1):∃ r,Z01.f h l=some r∧(r=0↔Side h.f1 h.f2 l):=by
 unfold Z01.f
 by_cases h0:l.length>512
 ·rw[if_pos (by simp;omega)]
  exact⟨_,rfl,by simp;intro h;have:=h.len;omega⟩
 ·rw[if_neg (by simp;omega)]
  obtain⟨r,e,e1,e2⟩:=buckets_l0 h l hs hl l [] 0 rfl rfl hU
  rw[e,sb]
  cases r with
  | inl c =>
   refine⟨c,rfl,?_⟩
   constructor
   ·intro h;exact absurd h (e1 c rfl)
   ·intro h
    exact absurd (e2.2 ⟨h.ok,(up_iff l _).2 ⟨by simp,h.up⟩⟩) (by simp)
  | inr u =>
   refine⟨0,rfl,?_⟩
   obtain⟨h1,h2⟩:=e2.1 rfl
   exact⟨fun _=>⟨by omega,h1,((up_iff l _).1 h2).2⟩,fun _=>rfl⟩
theorem check_iff (h:Z0f) (hf:Fits h) (hp:h.f6.length<1000000000) (hn:h.f7.length<1000000000):∃ r,Z0j.f h=some r∧(r=0↔Valid h):=by
 unfold Z0j.f
 have hk:((if(h.f0 != (0:Int))=true then(some (h.f0 != (1:Int))) else(some false)):Option (Bool))=some (!decide (h.f0=0∨h.f0=1)):=by
  by_cases h1:h.f0=0
  ·simp[h1]
  ·by_cases h2:h.f0=1<;>simp[h1,h2]
 rw[hk,sb]
 by_cases c1:h.f0=0∨h.f0=1
 case neg=>rw[if_pos (by simpa using c1)];exact⟨_,rfl,by simp;intro h;exact c1 h.kind⟩
 rw[if_neg (by rw[decide_eq_true c1];decide)]
 by_cases c2:Z3j h.f1
 case neg=>rw[right_F c2,sb,if_pos (by simp)];exact⟨_,rfl,by simp;intro h;exact c2 h.schema⟩
 rw[Z75 c2,sb,if_neg (by simp)]
 have hz:((if(h.f2 != (-524288))=true then(if(decide (h.f2≤(-262144)))=true then(some true) else(some (decide (h.f2>(262144:Int))))) else(some false)):Option (Bool))=some (!decide (h.f2 = -524288∨(-262144<h.f2∧h.f2≤262144))):=by
  by_cases h1:h.f2 = -524288
  ·simp[h1]
  ·by_cases h2:h.f2 ≤ -262144
   ·simp[h1,h2]
   ·have h4 : -262144<h.f2:=by omega
    by_cases h3:h.f2≤262144
    ·simp[h1,h2,h3,h4]
    ·simp[h1,h2,h3,h4];omega
 rw[hz,sb]
 by_cases c3:h.f2 = -524288∨(-262144<h.f2∧h.f2≤262144)
 case neg=>rw[if_pos (by simp[c3])];exact⟨_,rfl,by simp;intro h;exact c3 h.zero⟩
 rw[if_neg (by simp[c3])]
 obtain⟨r1,e1,i1⟩:=Z6e h h.f6 c2 hp (fun b hb=>(hf.pos b hb).2)
 obtain⟨r2,e2,i2⟩:=Z6e h h.f7 c2 hn (fun b hb=>(hf.neg b hb).2)
 rw[Z6d,e1,e2,sb,sb]
 by_cases d1:r1=0
 case neg=>rw[if_pos (by simpa using d1),sb];exact⟨_,rfl,⟨fun h=>absurd h d1,fun h=>absurd (i1.2 h.pos) d1⟩⟩
 rw[if_neg (by simpa using d1)]
 by_cases d2:r2=0
 case neg=>rw[if_pos (by simpa using d2),sb];exact⟨_,rfl,⟨fun h=>absurd h d2,fun h=>absurd (i2.2 h.neg) d2⟩⟩
 rw[if_neg (by simpa using d2),sb]
 simp only[]
 rw[total3 _ _ _ hp hn (fun b hb=>(hf.pos b hb).2) (fun b hb=>(hf.neg b hb).2) hf.zero,sb]
 by_cases c4:cnt h.f6+cnt h.f7+h.f3<18446744073709551616
 case neg=>rw[if_neg c4,if_pos (by simp)];exact⟨_,rfl,by simp;intro h;exact c4 h.total⟩
 rw[if_pos c4,if_neg (by simp)]
 by_cases c5:cnt h.f6+cnt h.f7+h.f3=h.f4
 ·rw[if_neg (by simpa using c5)]
  exact⟨0,rfl,fun _=>⟨c1,c2,c3,i1.1 d1,i2.1 d2,c4,c5.symm⟩,fun _=>rfl⟩
 ·rw[if_pos (by simpa using c5)]
  exact⟨_,rfl,by simp;intro h;exact c5 h.count.symm⟩
theorem ref_add_l0 (l:List Int) (hl:l.length<4611686018427387904):∀ (suf pre:List Int) (acc i:Int),l=pre++suf→i=(pre.length:Int)→U64 acc→(∀ x∈suf,U64 x) →
  Z3b.l0 l acc i=some (if acc+suf.sum<18446744073709551616 then .inr (acc+suf.sum) else .inl (0,5)):=by
 intro suf
 induction suf with
 | nil =>
  intro pre acc i h1 hi ha hs
  subst h1
  rw[Z3b.l0,if_neg (by simp[hi])]
  simp[ha.2]
 | cons x suf ih =>
  intro pre acc i h1 hi ha hs
  have hx:=hs x (by simp)
  have hs':∀ y∈suf,U64 y:=fun y hy=>hs y (by simp[hy])
  have hnn:0≤suf.sum:=Z4u (fun y hy=>(hs' y hy).1)
  have hlen:(l.length:Int)=pre.length+(suf.length+1):=by rw[h1];simp
  rw[Z3b.l0,if_pos (by rw[h1];simp[hi];omega),Z4q h1 hi,sb,wrapU (n:=18446744073709551615-acc) (by omega) (by omega)]
  by_cases hov:acc+x<18446744073709551616
  ·rw[if_neg (by simp;omega),Z2x    (by omega) (by omega),wrapU (by omega) (by omega)]
   rw[ih (pre++[x]) (acc+x) (i+1) (by simp[h1]) (by simp;omega) ⟨by omega,hov⟩ hs']
   rw[List.sum_cons,Int.add_assoc]
  ·rw[if_pos (by simp;omega),if_neg (by rw[List.sum_cons];omega)]
theorem ref_add (l:List Int) (hl:l.length<4611686018427387904) (h:∀ x∈l,U64 x) :
  Z3b.f l=some (if l.sum<18446744073709551616 then(l.sum,0) else(0,5)):=by
 unfold Z3b.f
 rw[ref_add_l0 l hl l [] 0 0 rfl rfl (by omega) h,sb,Int.zero_add]
 by_cases h:l.sum<18446744073709551616
 ·rw[if_pos h,if_pos h]
 ·rw[if_neg h,if_neg h]
theorem ref_check_l1 (h:Z0f) (x124:Int) (l:List Z9) (hs:Z3j h.f1) (hl:l.length<1000000):∀ (suf pre:List Z9) (acc:List Int) (i:Int),l=pre++suf→i=(pre.length:Int)→acc.length+suf.length<10000000→(∀ b∈suf,I64 b.f0∧U64 b.f1) →
  ∃ r,Z05.l1 h x124 l acc i=some r∧(∀ c,r = .inl c→c≠0)∧((∃ a,r = .inr a)↔(∀ b∈suf,BOk h.f1 h.f2 b)∧Up ((pre.getLast?).map (·.f0)) suf)∧∀ a,r = .inr a→a=acc++suf.map (·.f1):=by
 intro suf
 induction suf with
 | nil =>
  intro pre acc i h1 hi _ _
  subst h1
  rw[Z05.l1,if_neg (by simp[hi])]
  exact⟨_,rfl,by simp,by simp[Up],by simp⟩
 | cons x suf ih =>
  intro pre acc i h1 hi ha hU
  have hx:=hU x (by simp)
  have hlen:(l.length:Int)=pre.length+(suf.length+1):=by rw[h1];simp
  simp only[List.length_cons] at ha
  rw[Z05.l1,if_pos (by simp;omega),Z4q h1 hi,sb,ref_in hs hx.1,sb]
  by_cases c1:InS h.f1 x.f0
  case neg =>
   rw[if_pos (by simp[c1])]
   exact⟨_,rfl,by simp,by simp;intro h;exact absurd h.ins c1,by simp⟩
  rw[if_neg (by simp[c1])]
  have hsm:=Z5q c1
  have hprev:∃ c:Bool,((if(decide (i>(0:Int)))=true then((at? l (i64.wrap (i-(1:Int))))>>=fun b168=>some (decide (x.f0≤b168.f0))) else(some false)):Option (Bool))=some c∧(c=false↔∀ q,(pre.getLast?).map (·.f0)=some q→q<x.f0):=by
   by_cases h0:0<i
   ·obtain⟨q,e1,y,e2,e3⟩:=last_pre h1 hi h0 (by omega)
    rw[if_pos (by simpa using h0),e2,sb]
    exact⟨_,rfl,by rw[e1,e3];simp⟩
   ·rw[if_neg (by simpa using h0)]
    exact⟨_,rfl,by rw[no_pre hi h0];simp⟩
  obtain⟨c,ec,hc⟩:=hprev
  rw[ec,sb,Z2x (n:=x.f0-1) (by omega) (by omega),Z80 hs (by omega)]
  cases c with
  | true =>
   rw[if_pos rfl]
   refine⟨_,rfl,by simp,by simp;intro _ _ h2;exact absurd (hc.2 h2.1) (by simp),by simp⟩
  | false =>
   rw[if_neg (by simp)]
   by_cases c2:x.f1=0
   ·rw[if_pos (by simpa using c2)]
    exact⟨_,rfl,by simp,by simp;intro h;have:=h.pos;omega,by simp⟩
   rw[if_neg (by simpa using c2),sb]
   by_cases c3:(x.f0-1)*stp h.f1<h.f2
   ·rw[if_pos (by simpa using c3)]
    exact⟨_,rfl,by simp,by simp;intro h;have:=h.low;omega,by simp⟩
   rw[if_neg (by simpa using c3),chkB (by simp;omega),Z2x (n:=i+1) (by omega) (by omega)]
   obtain⟨r,e,e1,e2,e3⟩:=ih (pre++[x]) (acc++[x.f1]) (i+1) (by simp[h1]) (by simp;omega) (by simp;omega) (fun b hb=>hU b (by simp[hb]))
   refine⟨r,e,e1,?_,fun a ha=>by rw[e3 a ha];simp⟩
   rw[e2]
   simp only[List.getLast?_append,List.getLast?_singleton,Option.some_or,Option.map_some,Up,List.forall_mem_cons]
   have hb:BOk h.f1 h.f2 x:=⟨c1,by omega,by omega⟩
   constructor
   ·rintro⟨a,b⟩;exact⟨⟨hb,a⟩,hc.1 rfl,b⟩
   ·rintro⟨⟨_,a⟩,_,b⟩;exact⟨a,b⟩
theorem Z66 (h:Z0f) (x124:Int) (l:List Z9) (acc:List Int) (hs:Z3j h.f1) (hl:l.length<1000000000000000) (ha:acc.length<1000000) (hU:∀ b∈l,I64 b.f0∧U64 b.f1) :
  ∃ r:Int ⊕ List Int,(if(decide ((l.length:Int)>(512:Int)))=true then(some (.inl 9)) else(Z05.l1 h x124 l acc 0))=some r∧(∀ c,r = .inl c→c≠0)∧((∃ a,r = .inr a)↔Side h.f1 h.f2 l)∧∀ a,r = .inr a→a=acc++l.map (·.f1):=by
 by_cases h0:l.length>512
 ·rw[if_pos (by simp;omega)]
  exact⟨_,rfl,by simp,by simp;intro h;have:=h.len;omega,by simp⟩
 ·rw[if_neg (by simp;omega)]
  obtain⟨r,e,e1,e2,e3⟩:=ref_check_l1 h x124 l hs (by omega) l [] acc 0 rfl rfl (by omega) hU
  refine⟨r,e,e1,e2.trans ⟨fun⟨h1,h2⟩=>⟨by omega,h1,((up_iff l _).1 h2).2⟩,fun h=>⟨h.ok,(up_iff l _).2 ⟨by simp,h.up⟩⟩⟩,e3⟩
theorem ref_check_iff (h:Z0f) (hf:Fits h) (hp:h.f6.length<1000000000000000) (hn:h.f7.length<1000000000000000):∃ r,Z05.f h=some r∧(r=0↔Valid h):=by
 unfold Z05.f
 have hk:((if(h.f0 != (0:Int))=true then(some (h.f0 != (1:Int))) else(some false)):Option (Bool))=some (!decide (h.f0=0∨h.f0=1)):=by
  by_cases h1:h.f0=0
  ·simp[h1]
  ·by_cases h2:h.f0=1<;>simp[h1,h2]
 rw[hk,sb]
 by_cases c1:h.f0=0∨h.f0=1
 case neg=>rw[if_pos (by simpa using c1)];exact⟨_,rfl,by simp;intro h;exact c1 h.kind⟩
 rw[if_neg (by rw[decide_eq_true c1];decide),Z6k,sb]
 by_cases c2:Z3j h.f1
 case neg=>rw[if_pos (by simp[c2])];exact⟨_,rfl,by simp;intro h;exact c2 h.schema⟩
 rw[if_neg (by simp[c2])]
 have hz:((if(h.f2 != (-524288))=true then(if(decide (h.f2≤(-262144)))=true then(some true) else(some (decide (h.f2>(262144:Int))))) else(some false)):Option (Bool))=some (!decide (h.f2 = -524288∨(-262144<h.f2∧h.f2≤262144))):=by
  by_cases h1:h.f2 = -524288
  ·simp[h1]
  ·by_cases h2:h.f2 ≤ -262144
   ·simp[h1,h2]
   ·have h4 : -262144<h.f2:=by omega
    by_cases h3:h.f2≤262144
    ·simp[h1,h2,h3,h4]
    ·simp[h1,h2,h3,h4];omega
 rw[hz,sb]
 by_cases c3:h.f2 = -524288∨(-262144<h.f2∧h.f2≤262144)
 case neg=>rw[if_pos (by simp[c3])];exact⟨_,rfl,by simp;intro h;exact c3 h.zero⟩
 rw[if_neg (by simp[c3])]
 obtain⟨r1,e1,n1,i1,j1⟩:=Z66 h 0 h.f6 [h.f3] c2 hp (by simp) hf.pos
 have w1:i64.wrap (0+1)=1:=by decide
 have w2:i64.wrap (1+1)=2:=by decide
 have step:∀ (k:Int) (l:List Z9) (acc:List Int),(k=0∧l=h.f6∨k=1∧l=h.f7)→Z05.l0 h acc k=((if(decide ((l.length:Int)>(512:Int)))=true then(some (.inl 9)) else(Z05.l1 h k l acc 0))>>=fun(oo:Int ⊕ List Int)=>match oo with | .inl rr=>(some (.inl rr)) | .inr x181=>(Z05.l0 h x181 (k+1))):=by
  intro k l acc hk
  rcases hk with ⟨rfl,rfl⟩ | ⟨rfl,rfl⟩
  ·rw[Z05.l0,if_pos (by decide),if_neg (by decide),sb,w1,Z6y];rfl
  ·rw[Z05.l0,if_pos (by decide),if_pos (by decide),sb,w2,Z6y];rfl
 rw[step 0 h.f6 _ (.inl ⟨rfl,rfl⟩),e1,sb]
 cases r1 with
 | inl c=>exact⟨c,rfl,fun h=>absurd h (n1 c rfl),fun h=>by obtain⟨a,e⟩:=i1.2 h.pos;cases e⟩
 | inr a1 =>
  have hv1:=i1.1 ⟨_,rfl⟩
  have ha1:=j1 a1 rfl
  have hl1:=hv1.len
  obtain⟨r2,e2,n2,i2,j2⟩:=Z66 h 1 h.f7 a1 c2 hn (by rw[ha1];simp;omega) hf.neg
  simp only[]
  rw[show(0:Int)+1=1 from rfl,step 1 h.f7 _ (.inr ⟨rfl,rfl⟩),e2,sb]
  cases r2 with
  | inl c=>exact⟨c,rfl,fun h=>absurd h (n2 c rfl),fun h=>by obtain⟨a,e⟩:=i2.2 h.neg;cases e⟩
  | inr a2 =>
   have hv2:=i2.1 ⟨_,rfl⟩
   have ha2:=j2 a2 rfl
   have hl2:=hv2.len
   simp only[]
   rw[show(1:Int)+1=2 from rfl,Z05.l0,if_neg (by decide),sb]
   simp only[]
   have hall:a2=[h.f3]++h.f6.map (·.f1)++h.f7.map (·.f1):=by rw[ha2,ha1]
   have hsum:a2.sum=cnt h.f6+cnt h.f7+h.f3:=by rw[hall];simp[cnt];omega
   rw[ref_add a2 (by rw[hall];simp;omega) (by
    intro x hx
    rw[hall] at hx
    simp only[List.mem_append,List.mem_singleton,List.mem_map] at hx
    rcases hx with (rfl | ⟨b,hb,rfl⟩) | ⟨b,hb,rfl⟩
    ·exact hf.zero
    ·exact(hf.pos b hb).2
    ·exact(hf.neg b hb).2),sb,hsum]
   by_cases c4:cnt h.f6+cnt h.f7+h.f3<18446744073709551616
   case neg=>rw[if_neg c4,if_pos (by simp)];exact⟨_,rfl,by simp;intro h;exact c4 h.total⟩
   rw[if_pos c4,if_neg (by simp)]
   by_cases c5:cnt h.f6+cnt h.f7+h.f3=h.f4
   ·rw[if_neg (by simpa using c5)]
    exact⟨0,rfl,fun _=>⟨c1,c2,c3,hv1,hv2,c4,c5.symm⟩,fun _=>rfl⟩
   ·rw[if_pos (by simpa using c5)]
    exact⟨_,rfl,by simp;intro h;exact c5 h.count.symm⟩
end Go.Proofs.YtinhldbfifpakaaGreat.PvGL
set_option linter.unusedVariables false
set_option linter.unusedSimpArgs false
namespace Go.Proofs.YtinhldbfifpakaaGreat.PvGL
open Go Go.Pv Go.Pv.GS Go.IntKind
theorem bk_same (h:Z0f) (x124:Int) (l:List Z9) (hs:Z3j h.f1) (hl:l.length<1000000):∀ (suf pre:List Z9) (acc:List Int) (i:Int),l=pre++suf→i=(pre.length:Int)→acc.length+suf.length<10000000→(∀ b∈suf,I64 b.f0∧U64 b.f1) →
  ∃ r:Int,Z01.l0 h l i=some (if r=0 then .inr () else .inl r)∧Z05.l1 h x124 l acc i=some (if r=0 then .inr (acc++suf.map (·.f1)) else .inl r):=by
 intro suf
 induction suf with
 | nil =>
  intro pre acc i h1 hi _ _
  subst h1
  refine⟨0,?_,?_⟩
  ·rw[Z01.l0,if_neg (by simp[hi]),if_pos rfl]
  ·rw[Z05.l1,if_neg (by simp[hi]),if_pos rfl];simp
 | cons x suf ih =>
  intro pre acc i h1 hi ha hU
  have hx:=hU x (by simp)
  have hlen:(l.length:Int)=pre.length+(suf.length+1):=by rw[h1];simp
  simp only[List.length_cons] at ha
  by_cases c1:InS h.f1 x.f0
  case neg =>
   refine⟨4,?_,?_⟩
   ·rw[Z01.l0,if_pos (by simp;omega),Z4q h1 hi,sb,in_T hs,sb,if_pos (by simp[c1]),if_neg (by omega)]
   ·rw[Z05.l1,if_pos (by simp;omega),Z4q h1 hi,sb,ref_in hs hx.1,sb,if_pos (by simp[c1]),if_neg (by omega)]
  have hsm:=Z5q c1
  obtain⟨c,ec1,ec2⟩:∃ c:Bool,((if(decide (i>(0:Int)))=true then((at? l (i64.wrap (i-(1:Int))))>>=fun b922=>some (decide (b922.f0≥x.f0))) else(some false)):Option (Bool))=some c ∧
    ((if(decide (i>(0:Int)))=true then((at? l (i64.wrap (i-(1:Int))))>>=fun b168=>some (decide (x.f0≤b168.f0))) else(some false)):Option (Bool))=some c:=by
   by_cases h0:0<i
   ·obtain⟨q,e1,y,e2,e3⟩:=last_pre h1 hi h0 (by omega)
    exact⟨decide (x.f0≤y.f0),by rw[if_pos (by simpa using h0),e2,sb],by rw[if_pos (by simpa using h0),e2,sb]⟩
   ·exact⟨false,by rw[if_neg (by simpa using h0)],by rw[if_neg (by simpa using h0)]⟩
  have P:Z01.l0 h l i=(if c=true then some (.inl 32) else if x.f1=0 then some (.inl 21) else if(x.f0-1)*stp h.f1<h.f2 then some (.inl 31) else Z01.l0 h l (i+1)):=by
   rw[Z01.l0,if_pos (by simp;omega),Z4q h1 hi,sb,in_T hs,sb,if_neg (by simp[c1]),ec1,sb,low_T hs c1,Z2x (n:=i+1) (by omega) (by omega)]
   simp only[sb]
   simp
  have Q:Z05.l1 h x124 l acc i=(if c=true then some (.inl 32) else if x.f1=0 then some (.inl 21) else if(x.f0-1)*stp h.f1<h.f2 then some (.inl 31) else Z05.l1 h x124 l (acc++[x.f1]) (i+1)):=by
   rw[Z05.l1,if_pos (by simp;omega),Z4q h1 hi,sb,ref_in hs hx.1,sb,if_neg (by simp[c1]),ec2,sb,Z2x (n:=x.f0-1) (by omega) (by omega),Z80 hs (by omega),chkB (by simp;omega),Z2x (n:=i+1) (by omega) (by omega)]
   simp only[sb]
   simp
  cases c with
  | true=>exact⟨32,by rw[P,if_pos rfl,if_neg (by omega)],by rw[Q,if_pos rfl,if_neg (by omega)]⟩
  | false =>
   by_cases c2:x.f1=0
   ·exact⟨21,by rw[P,if_neg (by simp),if_pos c2,if_neg (by omega)],by rw[Q,if_neg (by simp),if_pos c2,if_neg (by omega)]⟩
   by_cases c3:(x.f0-1)*stp h.f1<h.f2
   ·exact⟨31,by rw[P,if_neg (by simp),if_neg c2,if_pos c3,if_neg (by omega)],by rw[Q,if_neg (by simp),if_neg c2,if_pos c3,if_neg (by omega)]⟩
   obtain⟨r,e1,e2⟩:=ih (pre++[x]) (acc++[x.f1]) (i+1) (by simp[h1]) (by simp;omega) (by simp;omega) (fun b hb=>hU b (by simp[hb]))
   exact⟨r,by rw[P,if_neg (by simp),if_neg c2,if_neg c3,e1],by rw[Q,if_neg (by simp),if_neg c2,if_neg c3,e2];simp⟩
theorem side_same (h:Z0f) (x124:Int) (l:List Z9) (acc:List Int) (hs:Z3j h.f1) (ha:acc.length<1000000) (hU:∀ b∈l,I64 b.f0∧U64 b.f1) :
  ∃ r:Int,Z01.f h l=some r∧(if(decide ((l.length:Int)>(512:Int)))=true then(some (.inl 9)) else(Z05.l1 h x124 l acc 0))=some (if r=0 then Sum.inr (acc++l.map (·.f1)) else .inl r):=by
 by_cases h0:l.length>512
 ·refine⟨9,?_,?_⟩
  ·unfold            Z01.f
   rw[if_pos (by simp;omega)]
  ·rw[if_pos (by simp;omega),if_neg (by omega)]
 ·obtain⟨r,e1,e2⟩:=bk_same h x124 l hs (by omega) l [] acc 0 rfl rfl (by omega) hU
  refine⟨r,?_,?_⟩
  ·unfold            Z01.f
   rw[if_neg (by simp;omega),e1,sb]
   by_cases c:r=0
   ·rw[if_pos c];simp[c]
   ·rw[if_neg c]
  ·rw[if_neg (by simp;omega),e2]
theorem check_same (h:Z0f) (hf:Fits h) (hp:h.f6.length<1000000000000000) (hn:h.f7.length<1000000000000000):∃ r,Z0j.f h=some r∧Z05.f h=some r∧(r=0↔Valid h):=by
 obtain⟨r,er,hr⟩:=ref_check_iff h hf hp hn
 refine⟨r,?_,er,hr⟩
 suffices q:Z05.f h=Z0j.f h by rw[← q];exact er
 clear er hr
 have hk:((if(h.f0 != (0:Int))=true then(some (h.f0 != (1:Int))) else(some false)):Option (Bool))=some (!decide (h.f0=0∨h.f0=1)):=by
  by_cases h1:h.f0=0
  ·simp[h1]
  ·by_cases h2:h.f0=1<;>simp[h1,h2]
 have hz:((if(h.f2 != (-524288))=true then(if(decide (h.f2≤(-262144)))=true then(some true) else(some (decide (h.f2>(262144:Int))))) else(some false)):Option (Bool))=some (!decide (h.f2 = -524288∨(-262144<h.f2∧h.f2≤262144))):=by
  by_cases h1:h.f2 = -524288
  ·simp[h1]
  ·by_cases h2:h.f2 ≤ -262144
   ·simp[h1,h2]
   ·have h4 : -262144<h.f2:=by omega
    by_cases h3:h.f2≤262144
    ·simp[h1,h2,h3,h4]
    ·simp[h1,h2,h3,h4];omega
 unfold Z0j.f Z05.f
 rw[hk,sb,sb,Z6k]
 by_cases c1:h.f0=0∨h.f0=1
 case neg=>rw[if_pos (by simpa using c1),if_pos (by simpa using c1)]
 have hk1:¬ ((!decide (h.f0=0∨h.f0=1))=true):=by rw[decide_eq_true c1];decide
 rw[if_neg hk1,if_neg hk1]
 by_cases c2:Z3j h.f1
 case neg=>rw[right_F c2,sb,sb,if_pos (by simp[c2]),if_pos (by simp)]
 rw[Z75 c2,sb,sb]
 rw[if_neg (show ¬ ((!decide (Z3j h.f1))=true) by simp[c2]),if_neg (show ¬ ((!true)=true) by simp),hz,sb,sb]
 by_cases c3:h.f2 = -524288∨(-262144<h.f2∧h.f2≤262144)
 case neg =>
  have hk3:(!decide (h.f2 = -524288∨(-262144<h.f2∧h.f2≤262144)))=true:=by rw[decide_eq_false c3];rfl
  rw[if_pos hk3,if_pos hk3]
 have hk3:¬ ((!decide (h.f2 = -524288∨(-262144<h.f2∧h.f2≤262144)))=true):=by rw[decide_eq_true c3];decide
 rw[if_neg hk3,if_neg hk3]
 obtain⟨r1,p1,q1⟩:=side_same h 0 h.f6 [h.f3] c2 (by simp) hf.pos
 have w1:i64.wrap (0+1)=1:=by decide
 have w2:i64.wrap (1+1)=2:=by decide
 have step:∀ (k:Int) (l:List Z9) (acc:List Int),(k=0∧l=h.f6∨k=1∧l=h.f7)→Z05.l0 h acc k=((if(decide ((l.length:Int)>(512:Int)))=true then(some (.inl 9)) else(Z05.l1 h k l acc 0))>>=fun(oo:Int ⊕ List Int)=>match oo with | .inl rr=>(some (.inl rr)) | .inr x181=>(Z05.l0 h x181 (k+1))):=by
  intro k l acc hk
  rcases hk with ⟨rfl,rfl⟩ | ⟨rfl,rfl⟩
  ·rw[Z05.l0,if_pos (by decide),if_neg (by decide),sb,w1,Z6y];rfl
  ·rw[Z05.l0,if_pos (by decide),if_pos (by decide),sb,w2,Z6y];rfl
 rw[step 0 h.f6 _ (.inl ⟨rfl,rfl⟩),q1,sb,Z6d,p1,sb]
 by_cases d1:r1=0
 case neg=>rw[if_neg d1,if_pos (by simpa using d1)];simp only[sb]
 rw[if_pos d1,if_neg (by simpa using d1)]
 by_cases hlen6:h.f6.length≤512
 case neg =>
  exfalso
  have:Z01.f h h.f6=some 9:=by unfold Z01.f;rw[if_pos (by simp;omega)]
  rw[p1] at this;simp at this;omega
 obtain⟨r2,p2,q2⟩:=side_same h 1 h.f7 ([h.f3]++h.f6.map (·.f1)) c2 (by simp;omega) hf.neg
 simp only[]
 rw[show(0:Int)+1=1 from rfl,step 1 h.f7 _ (.inr ⟨rfl,rfl⟩),q2,sb,p2,sb]
 by_cases d2:r2=0
 case neg=>rw[if_neg d2,if_pos (by simpa using d2)];simp only[sb]
 rw[if_pos d2,if_neg (by simpa using d2)]
 by_cases hlen7:h.f7.length≤512
 case neg =>
  exfalso
  have:Z01.f h h.f7=some 9:=by unfold Z01.f;rw[if_pos (by simp;omega)]
  rw[p2] at this;simp at this;omega
 simp only[]
 rw[show(1:Int)+1=2 from rfl,Z05.l0,if_neg (by decide),sb,sb]
 simp only[]
 rw[total3 _ _ _ (by omega) (by omega) (fun b hb=>(hf.pos b hb).2) (fun b hb=>(hf.neg b hb).2) hf.zero,sb]
 have hsum:(([h.f3]++h.f6.map (·.f1))++h.f7.map (·.f1)).sum=cnt h.f6+cnt h.f7+h.f3:=by simp[cnt];omega
 rw[ref_add _ (by simp;omega) (by
  intro x hx
  simp only[List.mem_append,List.mem_singleton,List.mem_map] at hx
  rcases hx with (rfl | ⟨b,hb,rfl⟩) | ⟨b,hb,rfl⟩
  ·exact hf.zero
  ·exact(hf.pos b hb).2
  ·exact(hf.neg b hb).2),sb,hsum]
 by_cases c4:cnt h.f6+cnt h.f7+h.f3<18446744073709551616
 ·rw[if_pos c4];try simp
 ·rw[if_neg c4];try simp
end Go.Proofs.YtinhldbfifpakaaGreat.PvGL
set_option linter.unusedVariables false
set_option linter.unusedSimpArgs false
namespace Go.Proofs.YtinhldbfifpakaaGreat.PvGL
open Go Go.Pv Go.Pv.GS Go.IntKind
theorem check_any (h:Z0f) (hf:Fits h):∃ r,Z0j.f h=some r∧(r=0↔Valid h):=by
 by_cases hsz:h.f6.length≤512∧h.f7.length≤512
 ·exact check_iff h hf (by omega) (by omega)
 have hnv:¬ Valid h:=fun v=>hsz ⟨v.pos.len,v.neg.len⟩
 suffices q:∃ r,Z0j.f h=some r∧r≠0 by
  obtain⟨r,e,hr⟩:=q
  exact⟨r,e,fun h=>absurd h hr,fun v=>absurd v hnv⟩
 unfold Z0j.f
 have hk:((if(h.f0 != (0:Int))=true then(some (h.f0 != (1:Int))) else(some false)):Option (Bool))=some (!decide (h.f0=0∨h.f0=1)):=by
  by_cases h1:h.f0=0
  ·simp[h1]
  ·by_cases h2:h.f0=1<;>simp[h1,h2]
 rw[hk,sb]
 by_cases c1:h.f0=0∨h.f0=1
 case neg=>rw[if_pos (by simpa using c1)];exact⟨_,rfl,by omega⟩
 rw[if_neg (by rw[decide_eq_true c1];decide)]
 by_cases c2:Z3j h.f1
 case neg=>rw[right_F c2,sb,if_pos (by simp)];exact⟨_,rfl,by omega⟩
 rw[Z75 c2,sb,if_neg (by simp)]
 obtain⟨z,hz⟩:∃ z:Bool,((if(h.f2 != (-524288))=true then(if(decide (h.f2≤(-262144)))=true then(some true) else(some (decide (h.f2>(262144:Int))))) else(some false)):Option (Bool))=some z:=by
  repeat' split
  all_goals exact⟨_,rfl⟩
 rw[hz,sb]
 cases z with
 | true=>rw[if_pos rfl];exact⟨_,rfl,by omega⟩
 | false =>
  rw[if_neg (by simp),Z6d]
  by_cases h6:h.f6.length≤512
  ·obtain⟨r1,e1,i1⟩:=Z6e         h h.f6 c2 (by omega) (fun b hb=>(hf.pos b hb).2)
   rw[e1,sb]
   by_cases d1:r1=0
   case neg=>rw[if_pos (by simpa using d1),sb];exact⟨_,rfl,d1⟩
   have h7:¬ h.f7.length≤512:=fun q=>hsz ⟨h6,q⟩
   have e2:Z01.f h h.f7=some 9:=by unfold Z01.f;rw[if_pos (by simp;omega)]
   rw[if_neg (by simpa using d1),e2,sb,if_pos (by simp),sb];exact⟨_,rfl,by omega⟩
  ·have e1 :            Z01.f h h.f6=some 9:=by unfold            Z01.f;rw[if_pos (by simp;omega)]
   rw[e1,sb,if_pos (by simp),sb];exact⟨_,rfl,by omega⟩
end Go.Proofs.YtinhldbfifpakaaGreat.PvGL
set_option linter.unusedVariables false
set_option linter.unusedSimpArgs false
set_option maxRecDepth 100000
namespace Go.Proofs.YtinhldbfifpakaaGreat.PvGL
open Go Go.Pv Go.Pv.GS Go.IntKind
theorem awake15:Z2f.f=some true:=by cbv
def Z7x (t:Int):Bool:=decide (0≤t∧t≤1099511627776)
open Classical in
noncomputable def sok (s:Zt):Bool:=Z7x s.f0&&decide (Valid s.f1)
def aft (p:Option Zt) (s:Zt):Bool:=match p with
 | none=>true
 | some q=>decide (q.f0<s.f0)
noncomputable def good (p:Option Zt) (s:Zt):Bool:=sok s&&aft p s
noncomputable def rise:Option Zt→List Zt→Bool
 | _,[]=>true
 | p,s::l=>good p s&&rise (some s) l
def lst:Option Zt→List Zt→Option Zt
 | p,[]=>p
 | _,s::l=>lst (some s) l
theorem rise_app (a b:List Zt):∀ p,rise p (a++b)=(rise p a&&rise (lst p a) b):=by
 induction a with
 | nil=>intro p;rfl
 | cons s a ih=>intro p;simp only[List.cons_append,rise,lst,ih,Bool.and_assoc]
theorem lst_app (a b:List Zt):∀ p,lst p (a++b)=lst (lst p a) b:=by
 induction a with
 | nil=>intro p;rfl
 | cons s a ih=>intro p;exact ih _
theorem Z6p (a:List Zt) (s:Zt) (p:Option Zt):lst p (a++[s])=some s:=by rw[lst_app];rfl
def flow (b:Bool):Bool ⊕ Unit:=match b with
 | true =>.inr ()
 | false =>.inl false
theorem ris_step (s:Zt) (hf:Fits s.f1) {l pre suf:List Zt} {i:Int} (h1:l=pre++s::suf) (hi:i=(pre.length:Int)) (hl:l.length<1000000000000000) :
  ((if(decide (s.f0<(0:Int)))=true then(some true) else(if(decide (s.f0>(1099511627776:Int)))=true then(some true) else((Z0j.f s.f1)>>=fun t508=>if(t508 != (0:Int))=true then(some true) else(if(decide (i>(0:Int)))=true then((at? l (i64.wrap (i-(1:Int))))>>=fun b512=>some (decide (b512.f0≥s.f0))) else(some false))))):Option (Bool))=some (!good (lst none pre) s):=by
 have hlen:l.length=pre.length+(suf.length+1):=by rw[h1];simp
 by_cases t0:s.f0<0
 ·rw[if_pos (decide_eq_true t0)]
  have:Z7x s.f0=false:=decide_eq_false (by omega)
  simp[good,sok,this]
 rw[if_neg (by simpa using t0)]
 by_cases t1:s.f0>1099511627776
 ·rw[if_pos (decide_eq_true t1)]
  have:Z7x s.f0=false:=decide_eq_false (by omega)
  simp[good,sok,this]
 rw[if_neg (by simpa using t1)]
 have ht:Z7x s.f0=true:=decide_eq_true (by omega)
 obtain⟨e,e1,e3⟩:=check_any s.f1 hf
 rw[e1,sb]
 by_cases he:e=0
 case neg =>
  rw[if_pos (by simpa using he)]
  have:¬ Valid s.f1:=fun h=>he (e3.2 h)
  simp[good,sok,this]
 rw[if_neg (by simpa using he)]
 have hv:=e3.1 he
 rcases List.eq_nil_or_concat pre with rfl | ⟨Q,q,rfl⟩
 ·rw[if_neg (by simp[hi])]
  simp[good,sok,ht,hv,lst,aft]
 ·rw[List.concat_eq_append] at *
  have hi3:i=(Q.length:Int)+1:=by rw[hi];simp
  simp only[List.length_append,List.length_singleton] at hlen
  rw[if_pos (decide_eq_true (by omega)),Z2x (n:=i-1) (by omega) (by omega)]
  rw[show at? l (i-1)=some q from Z4q (pre:=Q) (suf:=s::suf) (by rw[h1];simp) (by omega),sb,Z6p]
  simp only[good,sok,ht,hv,aft,Bool.true_and,decide_true]
  congr 1
  by_cases c:q.f0<s.f0
  ·rw[decide_eq_false (by omega),decide_eq_true c];rfl
  ·rw[decide_eq_true (by omega),decide_eq_false c];rfl
theorem ris_l0 (l:List Zt) (hl:l.length<1000000000000000) (hf:∀ s∈l,Fits s.f1):∀ (suf pre:List Zt) (i:Int),l=pre++suf→i=(pre.length:Int)→Zv.l0 l i=some (flow (rise (lst none pre) suf)):=by
 intro suf
 induction suf with
 | nil=>intro pre i h1 hi;rw[Zv.l0,if_neg (by rw[h1];simp[hi])];rfl
 | cons s suf ih =>
  intro pre i h1 hi
  have hlen:l.length=pre.length+(suf.length+1):=by rw[h1];simp
  have hst:=ris_step s (hf s (by rw[h1];simp)) h1 hi hl
  have hr:rise (lst none pre) (s::suf)=(good (lst none pre) s&&rise (some s) suf):=rfl
  rw[hr]
  cases g:good (lst none pre) s with
  | false =>
   rw[g] at hst
   rw[Zv.l0,if_pos (by simp;omega),Z4q h1 hi,sb,hst,sb,if_pos (show(!false)=true from rfl)]
   rfl
  | true =>
   rw[g] at hst
   rw[Zv.l0,if_pos (by simp;omega),Z4q h1 hi,sb,hst,sb,if_neg (show ¬ (!true)=true by simp),Z2x (n:=i+1) (by omega) (by omega),ih (pre++[s]) (i+1) (by simp[h1]) (by simp;omega),Z6p,Bool.true_and]
theorem ris_eq (l:List Zt) (hl:l.length<1000000000000000) (hf:∀ s∈l,Fits s.f1):Zv.f l=some (rise none l):=by
 unfold Zv.f
 rw[ris_l0 l hl hf l [] 0 rfl rfl,sb]
 show(match flow (rise none l) with | .inl rr=>(some rr) | .inr _=>(some true))=some (rise none l)
 obtain⟨b,hb⟩:∃ b,rise none l=b:=⟨_,rfl⟩
 rw[hb];cases b<;>rfl
theorem rtime (t:Int):Z3m.f t=some (Z7x t):=by
 unfold Z3m.f Z7x
 by_cases h:t≥0
 ·rw[if_pos (decide_eq_true h),sb];congr 1;apply Bool.eq_iff_iff.2;simp;omega
 ·rw[if_neg (by simpa using h),sb];congr 1;rw[decide_eq_false (by omega)]
theorem rris_l0 (l:List Zt) (hl:l.length<1000000000000000) (hf:∀ s∈l,Fits s.f1∧s.f1.f6.length<1000000000000000∧s.f1.f7.length<1000000000000000):∀ (suf pre:List Zt) (i:Int),l=pre++suf→i=(pre.length:Int)→Z1d.l0 l i=some (flow (rise (lst none pre) suf)):=by
 intro suf
 induction suf with
 | nil=>intro pre i h1 hi;rw[Z1d.l0,if_neg (by rw[h1];simp[hi])];rfl
 | cons s suf ih =>
  intro pre i h1 hi
  have hlen:l.length=pre.length+(suf.length+1):=by rw[h1];simp
  have hs:=hf s (by rw[h1];simp)
  have step:((((at? l i)>>=fun b6847=>(Z3m.f b6847.f0)>>=fun t6850=>if(!t6850)=true then(some true) else((Z05.f b6847.f1)>>=fun t6853=>if(t6853 != (0:Int))=true then(some true) else(if(decide (i>(0:Int)))=true then((at? l (i64.wrap (i-(1:Int))))>>=fun b6857=>some (decide (b6847.f0≤b6857.f0))) else(some false)))):Option (Bool)))=some (!good (lst none pre) s):=by
   rw[Z4q h1 hi,sb,rtime,sb]
   cases ht:Z7x s.f0 with
   | false=>rw[if_pos (show(!false)=true from rfl)];simp[good,sok,ht]
   | true =>
    rw[if_neg (by simp)]
    obtain⟨e,_,e1,e3⟩:=check_same s.f1 hs.1 hs.2.1 hs.2.2
    rw[e1,sb]
    by_cases he:e=0
    case neg =>
     rw[if_pos (by simpa using he)]
     have:¬ Valid s.f1:=fun h=>he (e3.2 h)
     simp[good,sok,this]
    rw[if_neg (by simpa using he)]
    have hv:=e3.1 he
    rcases List.eq_nil_or_concat pre with rfl | ⟨Q,q,rfl⟩
    ·rw[if_neg (by simp[hi])]
     simp[good,sok,ht,hv,lst,aft]
    ·rw[List.concat_eq_append] at *
     have hi3:i=(Q.length:Int)+1:=by rw[hi];simp
     simp only[List.length_append,List.length_singleton] at hlen
     rw[if_pos (decide_eq_true (by omega)),Z2x (n:=i-1) (by omega) (by omega)]
     rw[show at? l (i-1)=some q from Z4q (pre:=Q) (suf:=s::suf) (by rw[h1];simp) (by omega),sb,Z6p]
     simp only[good,sok,ht,hv,aft,Bool.true_and,decide_true]
     congr 1
     by_cases c:q.f0<s.f0
     ·rw[decide_eq_false (by omega),decide_eq_true c];rfl
     ·rw[decide_eq_true (by omega),decide_eq_false c];rfl
  have hst:=step
  have hr:rise (lst none pre) (s::suf)=(good (lst none pre) s&&rise (some s) suf):=rfl
  rw[hr]
  cases g:good (lst none pre) s with
  | false =>
   rw[g] at hst
   rw[Z1d.l0,if_pos (by simp;omega),hst,sb,if_pos (show(!false)=true from rfl)]
   rfl
  | true =>
   rw[g] at hst
   rw[Z1d.l0,if_pos (by simp;omega),hst,sb,if_neg (show ¬ (!true)=true by simp),Z2x (n:=i+1) (by omega) (by omega),ih (pre++[s]) (i+1) (by simp[h1]) (by simp;omega),Z6p,Bool.true_and]
theorem rris_eq (l:List Zt) (hl:l.length<1000000000000000) (hf:∀ s∈l,Fits s.f1∧s.f1.f6.length<1000000000000000∧s.f1.f7.length<1000000000000000):Z1d.f l=some (rise none l):=by
 unfold Z1d.f
 rw[rris_l0 l hl hf l [] 0 rfl rfl,sb]
 show(match flow (rise none l) with | .inl rr=>(some rr) | .inr _=>(some true))=some (rise none l)
 obtain⟨b,hb⟩:∃ b,rise none l=b:=⟨_,rfl⟩
 rw[hb];cases b<;>rfl
theorem rlaw_l0 (l:List Zt) (n:Int) (hl:l.length<1000000000000000):∀ (suf pre:List Zt) (x i:Int),l=pre++suf→i=(pre.length:Int)→∃ r,Z0b.l0 l n x i=some r:=by
 intro suf
 induction suf with
 | nil=>intro pre x i h1 hi;rw[Z0b.l0,if_neg (by rw[h1];simp[hi])];exact⟨_,rfl⟩
 | cons s suf ih =>
  intro pre x i h1 hi
  have hlen:l.length=pre.length+(suf.length+1):=by rw[h1];simp
  rw[Z0b.l0,if_pos (by simp;omega),Z4q h1 hi,sb,Z2x (n:=i+1) (by omega) (by omega)]
  exact ih (pre++[s]) _ (i+1) (by simp[h1]) (by simp;omega)
theorem rlaw_l1 (l:List Zt) (n:Int) (hl:l.length<1000000000000000) (hf:∀ s∈l,Fits s.f1):∀ (suf pre:List Zt) (i:Int),l=pre++suf→i=(pre.length:Int)→Z0b.l1 l n (rise none pre) i=some (rise none l):=by
 intro suf
 induction suf with
 | nil=>intro pre i h1 hi;rw[Z0b.l1,if_neg (by rw[h1];simp[hi]),h1,List.append_nil]
 | cons s suf ih =>
  intro pre i h1 hi
  have hlen:l.length=pre.length+(suf.length+1):=by rw[h1];simp
  have hs:=hf s (by rw[h1];simp)
  have w1:i64.wrap (i+1)=i+1:=Z2x (by omega) (by omega)
  have hstep:=ih (pre++[s]) (i+1) (by simp[h1]) (by simp;omega)
  have hr:rise none (pre++[s])=(rise none pre&&good (lst none pre) s):=by rw[rise_app];simp[rise]
  rw[hr] at hstep
  have key:∀ (x:Option Bool),x=some (rise none pre&&good (lst none pre) s)→(x>>=fun x6578=>Z0b.l1 l n x6578 (i64.wrap (i+(1:Int))))=some (rise none l):=by
   rintro x rfl
   rw[sb,w1];exact hstep
  rw[Z0b.l1,if_pos (by simp;omega)]
  refine key _ ?_
  cases hp:rise none pre with
  | false=>rw[if_neg (by simp)];rfl
  | true =>
   have e1:(l.drop (Int.toNat i)).take ((Int.toNat (i+1))-(Int.toNat i))=[s]:=by
    have:Int.toNat (i+1)-Int.toNat i=1:=by omega
    rw[this,h1,hi,Int.toNat_natCast,List.drop_left];rfl
   rw[if_pos rfl,w1,chkB (by omega),e1,ris_eq [s] (by simp) (by simpa using hs),sb]
   have e2:rise none [s]=sok s:=by simp[rise,good,aft]
   rw[e2]
   cases hk:sok s with
   | false=>rw[if_neg (by simp)];simp[good,hk]
   | true =>
    rw[if_pos rfl]
    rcases List.eq_nil_or_concat pre with rfl | ⟨Q,q,rfl⟩
    ·rw[if_pos (by simp[hi])];simp[good,hk,lst,aft]
    ·rw[List.concat_eq_append] at *
     have hi3:i=(Q.length:Int)+1:=by rw[hi];simp
     simp only[List.length_append,List.length_singleton] at hlen
     have w2:i64.wrap (i-1)=i-1:=Z2x (by omega) (by omega)
     have e3:(l.drop (Int.toNat (i-1))).take ((Int.toNat (i+1))-(Int.toNat (i-1)))=[q,s]:=by
      have a1:Int.toNat (i+1)-Int.toNat (i-1)=2:=by omega
      have a2:Int.toNat (i-1)=Q.length:=by omega
      rw[a1,a2,h1,List.append_assoc,List.drop_left];rfl
     rw[if_neg (by simp;omega),w2,chkB (by omega),e3,ris_eq [q,s] (by simp) (by
      intro x hx;simp at hx;rcases hx with rfl | rfl;exact hf _ (by rw[h1];simp);exact hs),sb,Z6p]
     have hq:sok q=true:=by
      rw[rise_app] at hp
      simp only[rise,good,Bool.and_eq_true] at hp
      exact hp.2.1.1
     simp[rise,good,hq,hk,aft]
theorem entryRising_R (l:List Zt) (n:Int) (hl:l.length≤140737488351232∧∀ y∈l,RSample y) (hn:Rng 0 256 n):Z0b.f l n=some true:=by
 obtain⟨hl0,hR⟩:=hl
 unfold Z0b.f
 obtain⟨r,e⟩:=rlaw_l0 l n (by omega) l [] 0 0 rfl rfl
 rw[e,sb]
 have hf:∀ s∈l,Fits s.f1:=fun s hs=>fits_of (hR s hs).r1
 by_cases h6:r>600
 ·rw[if_pos (decide_eq_true h6),awake15,sb]
 rw[if_neg (by simpa using h6)]
 obtain⟨n0,n1⟩:=hn
 have a1:=Int.tmod_nonneg ((l.length:Int)+1) n0
 have a2:=Int.tmod_lt_of_pos n (show(0:Int)<(l.length:Int)+1 by omega)
 have l1:=rlaw_l1 l n (by omega) hf l [] 0 rfl rfl
 simp only[rise] at l1
 rw[l1,sb,Z2x (n:=(l.length:Int)+1) (by omega) (by omega),Z2x (n:=n) (by omega) (by omega),chkB (by omega),chkB (by omega),awake15,sb,if_pos rfl,ris_eq l (by omega) hf,sb,if_pos (by simp)]
 have e0:Zv.f ([]:List Zt)=some true:=by rw[ris_eq [] (by simp) (by simp)];rfl
 have er:=rris_eq l (by omega) (fun s hs=>⟨hf s hs,by have:=(hR s hs).r1.r6.1;omega,by have:=(hR s hs).r1.r7.1;omega⟩)
 cases hr:rise none l with
 | false=>rw[if_pos (show(!false)=true from rfl),e0,sb,if_pos rfl,er,sb,hr,sb];rfl
 | true =>
  rw[if_neg (show ¬ (!true)=true by simp)]
  obtain⟨k,hk⟩:∃ k:Nat,Int.tmod n ((l.length:Int)+1)=(k:Int):=⟨(Int.tmod n ((l.length:Int)+1)).toNat,by omega⟩
  rw[hk]
  have cutp:(l.drop (Int.toNat (0:Int))).take (Int.toNat (k:Int)-Int.toNat (0:Int))=l.take k:=by simp
  have ht:rise none (l.take k)=true:=by
   have:=rise_app (l.take k) (l.drop k) none
   rw[List.take_append_drop,hr] at this
   have:=this.symm
   simp only[Bool.and_eq_true] at this
   exact this.1
  rw[cutp,ris_eq (l.take k) (by rw[List.length_take];omega) (fun s hs=>hf s (List.mem_of_mem_take hs)),sb,ht,if_pos rfl,e0,sb,if_pos rfl,er,sb,hr,sb]
  rfl
end Go.Proofs.YtinhldbfifpakaaGreat.PvGL
