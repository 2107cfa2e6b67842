import Derived.Test.YtpoihfcehejgfaaGreatPxBlockMakes10
set_option linter.unusedVariables false
set_option linter.unusedSimpArgs false
set_option maxRecDepth 100000
namespace Go.Proofs.YtpoihfcehejgfaaGreat.PvGS
open Go Go.Pv Go.Pv.GS Go.IntKind
theorem num_add_l0 (l:List Int) (hl:l.length<4611686018427387904):∀ (suf pre:List Int) (acc i:Int),l=pre++suf→i=(pre.length:Int)→U64 acc→(∀ x∈suf,U64 x) →
  Z2z.l0 l acc i=some (if acc+suf.sum<18446744073709551616 then .inr (acc+suf.sum) else .inl (0,5)):=by
 intro suf
 induction suf with
 | nil =>
  intro pre acc i h1 hi ha hs;subst h1;rw[Z2z.l0,if_neg (by simp[hi])];simp[ha.2]
 | cons x suf ih =>
  intro pre acc i h1 hi ha hs;have hx:=hs x (by simp);have hs':∀ y∈suf,U64 y:=fun y hy=>hs y (by simp[hy])
  have hnn:0≤suf.sum:=Z5a (fun y hy=>(hs' y hy).1);rw[Z2z.l0,if_pos (by rw[h1];simp[hi];omega)];rw[Z1s h1 hi,sb,chkB ⟨ha.1,hx.1,by omega,by omega⟩];have hlen:(l.length:Int)=pre.length+(suf.length+1):=by rw[h1];simp
  by_cases hov:acc+x<18446744073709551616
  ·rw[if_neg (by simp;omega),Z0b    (by omega) (by omega),show(acc+x+0) % 18446744073709551616=acc+x by omega]
   rw[ih (pre++[x]) (acc+x) (i+1) (by simp[h1]) (by simp;omega) ⟨by omega,hov⟩ hs'];rw[List.sum_cons,Int.add_assoc]
  ·rw[if_pos (by simp;omega),if_neg (by rw[List.sum_cons];omega)]
theorem num_add (l:List Int) (hl:l.length<4611686018427387904) (h:∀ x∈l,U64 x) :
  Z2z.f l=some (if l.sum<18446744073709551616 then(l.sum,0) else(0,5)):=by
 unfold Z2z.f;rw[num_add_l0 l hl l [] 0 0 rfl rfl (by omega) h,sb,Int.zero_add];by_cases h:l.sum<18446744073709551616
 ·rw[if_pos h,if_pos h]
 ·rw[if_neg h,if_neg h]
theorem num_add2 {a b:Int} (ha:U64 a) (hb:U64 b):Z2z.f [a,b]=some (if a+b<18446744073709551616 then(a+b,0) else(0,5)):=by
 rw[num_add [a,b] (by simp) (by simp;exact⟨ha,hb⟩)];simp
theorem perm_two {α:Type} {a b:α} {q:List α} (h:q.Perm [a,b]):q=[a,b]∨q=[b,a]:=by
 have hl:=h.length_eq
 match q,hl with
 | [x,y],_ =>
  have hx:x∈[a,b]:=h.mem_iff.1 (by simp);rcases List.mem_cons.1 hx with rfl | hx
  ·have:=(List.perm_cons x).1 h
   rw[List.perm_singleton] at this;left;simpa using this
  ·obtain rfl:x=b:=by simpa using hx
   have h2:List.Perm [x,y] [x,a]:=h.trans (List.Perm.swap _ _ _);have:=(List.perm_cons x).1 h2;rw[List.perm_singleton] at this;right;simpa using this
theorem make_two {k:Int} {l:List Z2} {p q:Int×Z5} {r:List Z5} (h0:Zf.l0 k l [] 0=some [p,q]) (h1:Zz.f [p.2,q.2]=some r) (h2:Zz.f [q.2,p.2]=some r):Zf.f k l=some r:=by
 unfold Zf.f;rw[h0,sb];have:rchk (fun(p:List (Int×Z5)) (_:Unit)=>Zz.f (p.map (·.2))) [p,q] ()=some r:=rchk_eq fun u hu=>by
  rcases perm_two hu with rfl | rfl
  ·exact h1
  ·exact h2
 rw[chkB (by simp),this,sb]
theorem awake16:Z36.f=some true:=by
 unfold Z36.f;have hk:Z2h.f [(⟨(⟨#[97]⟩:ByteArray),(⟨#[120]⟩:ByteArray)⟩:Z1c)]=some ⟨#[1,97,1,120]⟩:=by cbv
 rw[hk,sb];have h0:∃ p q,Zf.l0 0 [(⟨⟨#[1,97,1,120]⟩,[(⟨0,(⟨0,0,(-524288),0,0,0,[],[]⟩:Z20)⟩:Zi),(⟨63,(⟨0,0,(-524288),0,0,0,[],[]⟩:Z20)⟩:Zi),(⟨64,(⟨0,0,(-524288),0,0,0,[],[]⟩:Z20)⟩:Zi)]⟩:Z2)] [] 0=some [p,q] ∧
   p=(0,⟨⟨0,64,0⟩,[⟨⟨#[1,97,1,120]⟩,[(⟨0,(⟨0,0,(-524288),0,0,0,[],[]⟩:Z20)⟩:Zi),(⟨63,(⟨0,0,(-524288),0,0,0,[],[]⟩:Z20)⟩:Zi)]⟩]⟩) ∧
   q=(64,⟨⟨64,128,0⟩,[⟨⟨#[1,97,1,120]⟩,[(⟨64,(⟨0,0,(-524288),0,0,0,[],[]⟩:Z20)⟩:Zi)]⟩]⟩):=⟨_,_,by cbv,rfl,rfl⟩
 obtain⟨p,q,h0,hp,hq⟩:=h0;have h1:Zz.f [p.2,q.2]=some [p.2,q.2]:=by subst hp;subst hq;cbv
 have h2:Zz.f [q.2,p.2]=some [p.2,q.2]:=by subst hp;subst hq;cbv
 rw[make_two h0 h1 h2];subst hp;subst hq
 cbv
def wide (k:Int):Int:=if k=0 then 64 else if k=1 then 256 else if k=2 then 1024 else if k=3 then 4096 else 16384
theorem wd_eq {k:Int} (h:0≤k) (h4:k≤4):Zf.wd k=wide k:=by
 obtain rfl | rfl | rfl | rfl | rfl:k=0∨k=1∨k=2∨k=3∨k=4:=by omega
 all_goals decide
theorem width_ok {k:Int} (h:0≤k) (h4:k≤4):Z2p.f k=some ():=by
 obtain rfl | rfl | rfl | rfl | rfl:k=0∨k=1∨k=2∨k=3∨k=4:=by omega
 all_goals decide
theorem Z5w (k:Int):0<wide k∧wide k≤16384:=by unfold wide;split<;>(try split)<;>(try split)<;>(try split)<;>omega
theorem low_ok {k:Int} (h:0≤k) (h4:k≤4) (t:Int):Z4j.f k t=some ():=by
 unfold Z4j.f;rw[width_ok h h4,sb];rw[chkB (show(Zf.wd k≠0) by rw[wd_eq h h4];have:=Z5w k;omega)]
theorem lo_eq {k:Int} (h:0≤k) (h4:k≤4) {t:Int} (h0:0≤t) (ht:t<9223372036854775808):Zf.lo k t=t-t % wide k:=by
 have e:Zf.lo k t=i64.wrap (t-Int.tmod t (Zf.wd k)):=rfl;rw[e,wd_eq h h4,Int.tmod_eq_emod_of_nonneg h0];have:=Z5w k;have h1:=Int.emod_nonneg t (b:=wide k) (by omega);have h2:=Int.emod_lt_of_pos t (b:=wide k) this.1;exact Z0b (by omega) (by omega)
def Z6o (m:Z2m):Prop:=0≤m.f2∧m.f2≤4∧0≤m.f0∧m.f0≤1099511627776∧m.f0 % wide m.f2=0∧m.f1=m.f0+wide m.f2
instance (m:Z2m):Decidable (Z6o m):=by unfold Z6o;infer_instance
end Go.Proofs.YtpoihfcehejgfaaGreat.PvGS
