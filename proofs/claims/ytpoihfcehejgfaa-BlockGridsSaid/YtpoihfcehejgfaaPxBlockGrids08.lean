import Derived.Test.YtpoihfcehejgfaaPxBlockGrids07
set_option linter.unusedVariables false
set_option linter.unusedSimpArgs false
set_option maxRecDepth 100000
namespace Go.Proofs.Ytpoihfcehejgfaa.PvGP
open Go Go.Pv Go.Pv.GS Go.IntKind
theorem perm_two {α:Type} {a b:α} {q:List α} (h:q.Perm [a,b]):q=[a,b]∨q=[b,a]:=by
 have hl:=h.length_eq
 match q,hl with
 | [x,y],_ =>
  have hx:x∈[a,b]:=h.mem_iff.1 (by simp);rcases List.mem_cons.1 hx with rfl | hx
  ·have:=(List.perm_cons x).1 h
   rw[List.perm_singleton] at this;left;simpa using this
  ·obtain rfl:x=b:=by simpa using hx
   have h2:List.Perm [x,y] [x,a]:=h.trans (List.Perm.swap _ _ _);have:=(List.perm_cons x).1 h2;rw[List.perm_singleton] at this;right;simpa using this
theorem make_two {k:Int} {l:List Z03} {p q:Int×Z2} {r:List Z2} (h0:Z7.l0 k l [] 0=some [p,q])
  (h1:Zh.f [p.2,q.2]=some r) (h2:Zh.f [q.2,p.2]=some r):Z7.f k l=some r:=by
 unfold Z7.f;rw[h0,sb];have:rchk (fun(p:List (Int×Z2)) (_:Unit)=>Zh.f (p.map (·.2))) [p,q] ()=some r:=rchk_eq fun u hu=>by
  rcases perm_two hu with rfl | rfl
  ·exact h1
  ·exact h2
 rw[chkB (by simp),this,sb]
theorem awake16:Z0c.f=some true:=by
 unfold Z0c.f;have hk:Z08.f [(⟨(⟨#[97]⟩:ByteArray),(⟨#[120]⟩:ByteArray)⟩:Z0t)]=some ⟨#[1,97,1,120]⟩:=by cbv
 rw[hk,sb];have h0:∃ p q,Z7.l0 0 [(⟨⟨#[1,97,1,120]⟩,[(⟨0,(⟨0,0,(-524288),0,0,0,[],[]⟩:Z1e)⟩:Z09),(⟨63,(⟨0,0,(-524288),0,0,0,[],[]⟩:Z1e)⟩:Z09),(⟨64,(⟨0,0,(-524288),0,0,0,[],[]⟩:Z1e)⟩:Z09)]⟩:Z03)] [] 0=some [p,q] ∧
   p=(0,⟨⟨0,64,0⟩,[⟨⟨#[1,97,1,120]⟩,[(⟨0,(⟨0,0,(-524288),0,0,0,[],[]⟩:Z1e)⟩:Z09),(⟨63,(⟨0,0,(-524288),0,0,0,[],[]⟩:Z1e)⟩:Z09)]⟩]⟩) ∧
   q=(64,⟨⟨64,128,0⟩,[⟨⟨#[1,97,1,120]⟩,[(⟨64,(⟨0,0,(-524288),0,0,0,[],[]⟩:Z1e)⟩:Z09)]⟩]⟩):=⟨_,_,by cbv,rfl,rfl⟩
 obtain⟨p,q,h0,hp,hq⟩:=h0;have h1:Zh.f [p.2,q.2]=some [p.2,q.2]:=by subst hp;subst hq;cbv
 have h2:Zh.f [q.2,p.2]=some [p.2,q.2]:=by subst hp;subst hq;cbv
 rw[make_two h0 h1 h2];subst hp;subst hq
 cbv
def wide (k:Int):Int:=if k=0 then 64 else if k=1 then 256 else if k=2 then 1024 else if k=3 then 4096 else 16384
theorem wd_eq {k:Int} (h:0≤k) (h4:k≤4):Z7.wd k=wide k:=by
 obtain rfl | rfl | rfl | rfl | rfl:k=0∨k=1∨k=2∨k=3∨k=4:=by omega
 all_goals decide
theorem Z4g {k:Int} (h:0≤k) (h4:k≤4):Zi.f k=some ():=by
 obtain rfl | rfl | rfl | rfl | rfl:k=0∨k=1∨k=2∨k=3∨k=4:=by omega
 all_goals decide
theorem Z4h (k:Int):0<wide k∧wide k≤16384:=by unfold wide;split<;>(try split)<;>(try split)<;>(try split)<;>omega
theorem low_ok {k:Int} (h:0≤k) (h4:k≤4) (t:Int):Z02.f k t=some ():=by
 unfold Z02.f;rw[Z4g h h4,sb];rw[chkB (show(Z7.wd k≠0) by rw[wd_eq h h4];have:=Z4h k;omega)]
def Z3s (m:Zx):Prop:=0≤m.f2∧m.f2≤4∧0≤m.f0∧m.f0≤1099511627776∧m.f0 % wide m.f2=0∧m.f1=m.f0+wide m.f2
instance (m:Zx):Decidable (Z3s m):=by unfold Z3s;infer_instance
theorem right16 (m:Zx):Z01.f m=some (decide (Z3s m)):=by
 obtain⟨lo,hi,k⟩:=m;unfold Z01.f;dsimp only;by_cases h:0≤k∧k≤4
 ·obtain⟨h,h4⟩:=h
  have hw:=Z4h k;rw[if_neg (by simp;omega),sb,if_neg (by simp;omega),Z4g h h4,sb];by_cases h1:0≤lo
  ·rw[if_pos (by simpa using h1)]
   by_cases h2:lo≤1099511627776
   ·rw[if_pos (by simpa using h2)]
    have e:=wd_eq h h4;unfold Z7.wd at e;rw[e,chkB (by omega),Int.tmod_eq_emod_of_nonneg h1,Z1o (n:=lo+wide k) (by omega) (by omega)];by_cases h3:lo % wide k=0
    ·rw[if_pos (by simpa using h3),sb]
     congr 1;unfold Z3s;by_cases h5:hi=lo+wide k<;>simp[h5,h,h4,h1,h2,h3]
    ·rw[if_neg (by simpa using h3),sb]
     congr 1;unfold Z3s;simp[h3]
   ·rw[if_neg (by simpa using h2),sb];congr 1;unfold Z3s;simp[h2]
  ·rw[if_neg (by simpa using h1),sb];congr 1;unfold Z3s;simp[h1]
 ·by_cases h1:k<0
  ·rw[if_pos (by simpa using h1),sb,if_pos rfl];exact congrArg some (decide_eq_false (fun hh=>by have:=hh.1;dsimp only at this;omega)).symm
  ·rw[if_neg (by simpa using h1),sb,if_pos (by simp;omega)];exact congrArg some (decide_eq_false (fun hh=>by have:=hh.1;have:=hh.2.1;dsimp only at *;omega)).symm
theorem blockGrids_R (a0 a1:Int) (h0:0≤a0∧a0<4294967296) (h1:0≤a1∧a1<256):Z0r.f a0 a1=some true:=by
 obtain⟨p0,q0⟩:=h0;obtain⟨p1,q1⟩:=h1;unfold Z0r.f;have hk:i64.wrap (Int.tmod a1 4)=a1 % 4:=by rw[Int.tmod_eq_emod_of_nonneg p1,Z1o (by omega) (by omega)]
 have hA:i64.wrap a0=a0:=Z1o (by omega) (by omega);rw[hk,hA];generalize hK:a1 % 4=k;have k0:0≤k:=by omega
 have k3:k≤3:=by omega
 have hk1:i64.wrap (k+1)=k+1:=Z1o (by omega) (by omega);rw[hk1];have w0:=wd_eq k0 (by omega);have w1:=wd_eq (k:=k+1) (by omega) (by omega);unfold Z7.wd at w0 w1;rw[w0,w1,low_ok k0 (by omega),low_ok (by omega) (by omega),sb,sb,awake16,sb,if_pos rfl,Z4g k0 (by omega),Z4g (by omega) (by omega),sb,sb];have h4:wide (k+1)=4*wide k:=by
  obtain rfl | rfl | rfl | rfl:k=0∨k=1∨k=2∨k=3:=by omega
  all_goals decide
 have hw:=Z4h k;have hw1:=Z4h (k+1);have l0:i64.wrap (a0-Int.tmod a0 (wide k))=a0-a0 % wide k:=by
  rw[Int.tmod_eq_emod_of_nonneg p0];have h1:=Int.emod_nonneg a0 (b:=wide k) (by omega);have h2:=Int.emod_lt_of_pos a0 (b:=wide k) hw.1;exact Z1o (by omega) (by omega)
 have l1:i64.wrap (a0-Int.tmod a0 (wide (k+1)))=a0-a0 % wide (k+1):=by
  rw[Int.tmod_eq_emod_of_nonneg p0];have h1:=Int.emod_nonneg a0 (b:=wide (k+1)) (by omega);have h2:=Int.emod_lt_of_pos a0 (b:=wide (k+1)) hw1.1;exact Z1o (by omega) (by omega)
 rw[l0,l1,right16,right16];have hm:i64.wrap (a0-a0 % wide k-Int.tmod (a0-a0 % wide k) (wide (k+1)))=a0-a0 % wide (k+1)∧0≤a0-a0 % wide k∧a0-a0 % wide k≤4294967296∧a0-a0 % wide (k+1)≤a0-a0 % wide k∧a0-a0 % wide k+wide k≤a0-a0 % wide (k+1)+wide (k+1)∧(a0-a0 % wide k) % wide k=0∧¬ (a0-a0 % wide k+1) % wide k=0∧i64.wrap (4*wide k)=wide (k+1):=by
  have hL:0≤a0-a0 % wide k:=by have:=Int.emod_nonneg a0 (b:=wide k) (by omega);have:=Int.mul_ediv_add_emod a0 (wide k);have:0≤wide k*(a0 / wide k):=Int.mul_nonneg (by omega) (Int.ediv_nonneg p0 (by omega));omega
  rw[Int.tmod_eq_emod_of_nonneg hL];obtain rfl | rfl | rfl | rfl:k=0∨k=1∨k=2∨k=3:=by omega
  all_goals simp only[wide,Int.reduceAdd,Int.reduceEq,if_true,if_false] at *
  all_goals refine⟨?_,by omega,by omega,by omega,by omega,by omega,by omega,by decide⟩
  all_goals rw[Z1o (by omega) (by omega)];omega
 obtain⟨m1,m2,m3,m4,m5,m6,m7,m8⟩:=hm;rw[m8,m1,if_pos (by simp),if_pos (by simpa using m4),low_ok (by omega) (by omega),sb];rw[Z1o (n:=a0-a0 % wide k+wide k) (by omega) (by omega),Z1o (n:=a0-a0 % wide (k+1)+wide (k+1)) (by omega) (by omega),if_pos (by simpa using m5),if_pos (by simp),Z1o (n:=a0-a0 % wide k+1) (by omega) (by omega),Z1o (n:=a0-a0 % wide k+1+wide k) (by omega) (by omega)];rw[show decide (Z3s ⟨a0-a0 % wide k,a0-a0 % wide k+wide k,k⟩)=true from decide_eq_true ⟨k0,by show k≤4;omega,m2,by show a0-a0 % wide k≤1099511627776;omega,m6,rfl⟩];rw[show decide (Z3s ⟨a0-a0 % wide k+1,a0-a0 % wide k+1+wide k,k⟩)=false from decide_eq_false fun h=>m7 h.2.2.2.2.1];rfl
end Go.Proofs.Ytpoihfcehejgfaa.PvGP
