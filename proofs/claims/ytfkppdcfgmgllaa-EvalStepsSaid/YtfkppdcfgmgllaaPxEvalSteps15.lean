import Derived.Test.YtfkppdcfgmgllaaPxEvalSteps14
set_option linter.unusedVariables false
set_option linter.unusedSimpArgs false
set_option maxRecDepth 10000
namespace Go.Proofs.Ytfkppdcfgmgllaa.PvGD3
open Go Go.Pv Go.Pv.GS
theorem awake19:f_pluviallaw19_awake.f=some true:=by cbv
abbrev inWin (since at_:Int) (s:TSample):Bool:=decide (since<s.f0∧s.f0≤at_)
theorem win_inst (l:List TSample) (a b:Int):f_slices_DeleteFunc_api_Sample_eval_Window_1_aaa.f l a b=deleteF.f (fun x=>f_eval_Window_1_00e.f x a b) (⟨0,(⟨0,0,0,0,0,0,[],[]⟩:THist)⟩:TSample) l:=by kernel_rfl
theorem win_eq (l:List TSample) (hl:l.length<1000000000) (a b:Int):f_eval_Window.f l a b=some (l.filter (inWin a b)):=by
 unfold f_eval_Window.f f_slices_Clone_api_Sample.f
 rw[chkB (by simp;omega),sb,win_inst,deleteF_eq (p:=fun s => !inWin a b s) (fun s=>by
  unfold f_eval_Window_1_00e.f inWin
  by_cases c:s.f0≤a
  ·rw[if_pos (by simpa using c),sb,decide_eq_false (by omega)];rfl
  ·rw[if_neg (by simpa using c),sb]
   by_cases c2:s.f0>b
   ·rw[decide_eq_true c2,decide_eq_false (by omega)];rfl
   ·rw[decide_eq_false c2,decide_eq_true (by omega)];rfl) _ _ (by omega),sb]
 simp only[Bool.not_not]
theorem rtime (t:Int):f_pluvialref15_time.f t=some (decide (0≤t∧t≤1099511627776)):=by
 unfold f_pluvialref15_time.f
 by_cases c:0≤t<;>simp[c]
theorem quant_tot {h:THist} (v:Valid h) (f:Fits h) {part of:Int} (hp:U64 part) (ho:U64 of):∃ k e,f_rank_Quantile.f h part of=some (k,e):=by
 by_cases h0:of=0
 ·unfold f_rank_Quantile.f
  rw[if_pos (by simpa using h0),sb,if_pos rfl];exact⟨_,_,rfl⟩
 by_cases hle:part≤of
 case neg =>
  unfold f_rank_Quantile.f
  rw[if_neg (by simpa using h0),sb,if_pos (by simp;omega)];exact⟨_,_,rfl⟩
 by_cases hc:h.f4=0
 ·unfold f_rank_Quantile.f
  rw[if_neg (by simpa using h0),sb,if_neg (by simp;omega),if_pos (by simpa using hc)];exact⟨_,_,rfl⟩
 have:=f.count.1
 obtain⟨c,_,_,e⟩:=quant_ok v f hp ho (by have:=ho.1;omega) hle (by omega)
 exact⟨_,_,e⟩
abbrev ans0:Teval_Answer:=⟨(⟨0,0,0,0,0,0,[],[]⟩:THist),0,0,(⟨0,0,0⟩:Tbound_Key),(⟨0,0,0⟩:Trank_Part)⟩
theorem finish_tot (q:Teval_Ask) {h:THist} (v:Valid h) (f:Fits h) (hp:U64 q.f1) (ho:U64 q.f2):∃ a e,f_eval_Finish.f q h=some (a,e)∧(q.f0=0→a.f0=h∧e=0)∧(q.f0=1→a.f1=h.f5∧e=0)∧(q.f0=2→a.f2=h.f4∧e=0)∧(a.f0=h∨a.f0=(⟨0,0,0,0,0,0,[],[]⟩:THist)):=by
 have hsm:h.f6.length<1000000000∧h.f7.length<1000000000:=by have:=v.pos.len;have:=v.neg.len;omega
 unfold f_eval_Finish.f
 by_cases h0:q.f0=0∨q.f0=5
 ·have hb:((if(q.f0==(0:Int))=true then(some (q.f0==(0:Int))) else(some (q.f0==(5:Int)))):Option Bool)=some true:=by
   rcases h0 with c | c<;>simp[c]
  rw[hb,sb,if_pos rfl,clone_eq h hsm.1 hsm.2,sb,sb]
  dsimp only
  rw[if_neg (by simp)]
  exact⟨_,_,rfl,fun _=>⟨rfl,rfl⟩,fun c=>by rcases h0 with q | q<;>omega,fun c=>by rcases h0 with q | q<;>omega,.inl rfl⟩
 have hb:((if(q.f0==(0:Int))=true then(some (q.f0==(0:Int))) else(some (q.f0==(5:Int)))):Option Bool)=some false:=by
  have c1:¬ q.f0=0:=fun c=>h0 (.inl c)
  have c2:¬ q.f0=5:=fun c=>h0 (.inr c)
  simp[c1,c2]
 rw[hb,sb,if_neg (by simp)]
 by_cases h1:q.f0=1
 ·rw[if_pos (by simpa using h1),sb]
  dsimp only
  rw[sb]
  dsimp only
  rw[if_neg (by simp)]
  exact⟨_,_,rfl,fun c=>by omega,fun _=>⟨rfl,rfl⟩,fun c=>by omega,.inr rfl⟩
 rw[if_neg (by simpa using h1)]
 by_cases h2:q.f0=2
 ·rw[if_pos (by simpa using h2),sb]
  dsimp only
  rw[sb]
  dsimp only
  rw[sb]
  dsimp only
  rw[if_neg (by simp)]
  exact⟨_,_,rfl,fun c=>by omega,fun c=>by omega,fun _=>⟨rfl,rfl⟩,.inr rfl⟩
 rw[if_neg (by simpa using h2)]
 by_cases h3:q.f0=3
 ·obtain⟨k,e,eq⟩:=quant_tot v f hp ho
  rw[if_pos (by simpa using h3),eq,sb,sb]
  dsimp only
  rw[sb]
  dsimp only
  rw[sb]
  dsimp only
  rw[sb]
  dsimp only
  by_cases he:e=0
  ·rw[if_neg (by simpa using he)];exact⟨_,_,rfl,fun c=>by omega,fun c=>by omega,fun c=>by omega,.inr rfl⟩
  ·rw[if_pos (by simpa using he)];exact⟨_,_,rfl,fun c=>by omega,fun c=>by omega,fun c=>by omega,.inr rfl⟩
 rw[if_neg (by simpa using h3)]
 obtain⟨p,e,eq⟩:∃ (p:Int×Int×Int) (e:Int),((if(q.f0==(4:Int))=true then((f_rank_Below.f h (⟨q.f3.f0,q.f3.f1⟩:Trank_Place))>>=fun t2340=>some ((t2340.1).f0,(t2340.1).f1,(t2340.1).f2,t2340.2)) else(some (0,0,0,1))):Option (Int×Int×Int×Int))=some (p.1,p.2.1,p.2.2,e):=by
  by_cases h4:q.f0=4
  ·rw[if_pos (by simpa using h4),below_eq v f,sb];exact⟨(_,_,_),_,rfl⟩
  ·rw[if_neg (by simpa using h4)];exact⟨(0,0,0),1,rfl⟩
 rw[eq,sb]
 dsimp only
 rw[sb]
 dsimp only
 rw[sb]
 dsimp only
 rw[sb]
 dsimp only
 rw[sb]
 dsimp only
 by_cases he:e=0
 ·rw[if_neg (by simpa using he)];exact⟨_,_,rfl,fun c=>by omega,fun c=>by omega,fun c=>by omega,.inr rfl⟩
 ·rw[if_pos (by simpa using he)];exact⟨_,_,rfl,fun c=>by omega,fun c=>by omega,fun c=>by omega,.inr rfl⟩
end Go.Proofs.Ytfkppdcfgmgllaa.PvGD3
set_option linter.unusedVariables false
set_option linter.unusedSimpArgs false
namespace Go.Proofs.Ytfkppdcfgmgllaa.PvGD3
open Go Go.Pv Go.Pv.GS
open Classical
theorem alike_loop (a b p q:THist) (s zp zq:Int) (hp:Cut a s zp p) (hq:Cut b s zq q) :
  ∃ p' q' z,f_meld_Alike.l0 (p.f0,p.f1,p.f2,p.f3,p.f4,p.f5,p.f6,p.f7,q.f0,q.f1,q.f2,q.f3,q.f4,q.f5,q.f6,q.f7)=some (.inr (p'.f0,p'.f1,p'.f2,p'.f3,p'.f4,p'.f5,p'.f6,p'.f7,q'.f0,q'.f1,q'.f2,q'.f3,q'.f4,q'.f5,q'.f6,q'.f7)) ∧
   Cut a s z p'∧Cut b s z q'∧z=(if zp<zq then zAt s zq p.f6 p.f7 else if zq<zp then zAt s zp q.f6 q.f7 else zp):=by
 have done:∀ (p q:THist) (z:Int),p.f2=z→q.f2=z→f_meld_Alike.l0 (p.f0,p.f1,p.f2,p.f3,p.f4,p.f5,p.f6,p.f7,q.f0,q.f1,q.f2,q.f3,q.f4,q.f5,q.f6,q.f7)=some (.inr (p.f0,p.f1,p.f2,p.f3,p.f4,p.f5,p.f6,p.f7,q.f0,q.f1,q.f2,q.f3,q.f4,q.f5,q.f6,q.f7)):=by
  intro p q z h1 h2
  rw[f_meld_Alike.l0]
  (try simp only[])
  rw[if_neg (by simp[h1,h2])]
 have step:∀ (p q p' q':THist),p.f2≠q.f2→f_meld_Widen.f p (if q.f2>p.f2 then q.f2 else p.f2)=some (p',0)→f_meld_Widen.f q (if q.f2>p.f2 then q.f2 else p.f2)=some (q',0) →
   f_meld_Alike.l0 (p.f0,p.f1,p.f2,p.f3,p.f4,p.f5,p.f6,p.f7,q.f0,q.f1,q.f2,q.f3,q.f4,q.f5,q.f6,q.f7)=f_meld_Alike.l0 (p'.f0,p'.f1,p'.f2,p'.f3,p'.f4,p'.f5,p'.f6,p'.f7,q'.f0,q'.f1,q'.f2,q'.f3,q'.f4,q'.f5,q'.f6,q'.f7):=by
  intro p q p' q' hne h1 h2
  conv=>lhs;rw[f_meld_Alike.l0]
  (try simp only[])
  rw[if_pos (by simpa using hne),h1,sb,h2,sb,if_neg (by simp)]
 have rng:∀ (u:THist) (z:Int),Valid u→z<u.f2→(z = -524288∨(-262144<z∧z≤262144)) → -262144<u.f2∧u.f2≤262144:=by
  intro u z hu hlt hz
  rcases hu.zero with h | h
  ·rcases hz with h' | h'<;>omega
  ·exact h
 by_cases h1:zp<zq
 ·have hz:=rng q zp hq.valid (by rw[hq.zeroAt];exact h1) (hp.zeroAt ▸ hp.valid.zero)
  rw[hq.zeroAt] at hz
  obtain⟨p1,e1,w1⟩:=Widen_swal p zq hp.valid hp.fits hz (by rw[hp.zeroAt];exact h1)
  have c1:=hp.widen (by omega) w1
  have es:=step p q p1 q (by rw[hp.zeroAt,hq.zeroAt];omega) (by rw[hp.zeroAt,hq.zeroAt,if_pos h1];exact e1) (by rw[hp.zeroAt,hq.zeroAt,if_pos h1];have:=Widen_same q hq.valid;rw[hq.zeroAt] at this;exact this)
  rw[es,if_pos h1]
  rcases zAt_or s zq p.f6 p.f7 with ⟨hA,_⟩ | hA
  ·exact⟨p1,q,zq,done p1 q zq (by rw[c1.zeroAt,hA]) hq.zeroAt,hA ▸ c1,hq,hA.symm⟩
  ·by_cases heq:zAt s zq p.f6 p.f7=zq
   ·exact⟨p1,q,zq,done p1 q zq (by rw[c1.zeroAt,heq]) hq.zeroAt,heq ▸ c1,hq,heq.symm⟩
   have hgt:zq<zAt s zq p.f6 p.f7:=by have:=zAt_le s zq p.f6 p.f7;omega
   have hz2:=rng p1 zq c1.valid (by rw[c1.zeroAt];exact hgt) (.inr hz)
   rw[c1.zeroAt] at hz2
   obtain⟨q1,e2,w2⟩:=Widen_swal q (zAt s zq p.f6 p.f7) hq.valid hq.fits hz2 (by rw[hq.zeroAt];exact hgt)
   have c2:=hq.widen (by omega) w2
   have hno:zAt s (zAt s zq p.f6 p.f7) q.f6 q.f7=zAt s zq p.f6 p.f7:=by rw[hA];exact zAt_no no_strad_cg no_strad_cg
   rw[hno] at c2
   have es2:=step p1 q p1 q1 (by rw[c1.zeroAt,hq.zeroAt];omega) (by rw[c1.zeroAt,hq.zeroAt,if_neg (by omega)];have:=Widen_same p1 c1.valid;rw[c1.zeroAt] at this;exact this) (by rw[c1.zeroAt,hq.zeroAt,if_neg (by omega)];exact e2)
   rw[es2]
   exact⟨p1,q1,_,done p1 q1 _ c1.zeroAt c2.zeroAt,c1,c2,rfl⟩
 ·by_cases h2:zq<zp
  ·have hz:=rng p zq hp.valid (by rw[hp.zeroAt];exact h2) (hq.zeroAt ▸ hq.valid.zero)
   rw[hp.zeroAt] at hz
   obtain⟨q1,e1,w1⟩:=Widen_swal q zp hq.valid hq.fits hz (by rw[hq.zeroAt];exact h2)
   have c1:=hq.widen (by omega) w1
   have es:=step p q p q1 (by rw[hp.zeroAt,hq.zeroAt];omega) (by rw[hp.zeroAt,hq.zeroAt,if_neg h1];have:=Widen_same p hp.valid;rw[hp.zeroAt] at this;exact this) (by rw[hp.zeroAt,hq.zeroAt,if_neg h1];exact e1)
   rw[es,if_neg h1,if_pos h2]
   rcases zAt_or s zp q.f6 q.f7 with ⟨hA,_⟩ | hA
   ·exact⟨p,q1,zp,done p q1 zp hp.zeroAt (by rw[c1.zeroAt,hA]),hp,hA ▸ c1,hA.symm⟩
   ·by_cases heq:zAt s zp q.f6 q.f7=zp
    ·exact⟨p,q1,zp,done p q1 zp hp.zeroAt (by rw[c1.zeroAt,heq]),hp,heq ▸ c1,heq.symm⟩
    have hgt:zp<zAt s zp q.f6 q.f7:=by have:=zAt_le s zp q.f6 q.f7;omega
    have hz2:=rng q1 zp c1.valid (by rw[c1.zeroAt];exact hgt) (.inr hz)
    rw[c1.zeroAt] at hz2
    obtain⟨p1,e2,w2⟩:=Widen_swal p (zAt s zp q.f6 q.f7) hp.valid hp.fits hz2 (by rw[hp.zeroAt];exact hgt)
    have c2:=hp.widen (by omega) w2
    have hno:zAt s (zAt s zp q.f6 q.f7) p.f6 p.f7=zAt s zp q.f6 q.f7:=by rw[hA];exact zAt_no no_strad_cg no_strad_cg
    rw[hno] at c2
    have es2:=step p q1 p1 q1 (by rw[c1.zeroAt,hp.zeroAt];omega) (by rw[c1.zeroAt,hp.zeroAt,if_pos (by omega)];exact e2) (by rw[c1.zeroAt,hp.zeroAt,if_pos (by omega)];have:=Widen_same q1 c1.valid;rw[c1.zeroAt] at this;exact this)
    rw[es2]
    exact⟨p1,q1,_,done p1 q1 _ c2.zeroAt c1.zeroAt,c2,c1,rfl⟩
  ·have:zp=zq:=by omega
   subst this
   rw[if_neg h1,if_neg h2]
   exact⟨p,q,zp,done p q zp hp.zeroAt hq.zeroAt,hp,hq,rfl⟩
theorem Alike_eq (a b:THist) (ha:Valid a) (fa:Fits a) (hb:Valid b) (fb:Fits b) :
  ∃ p0 q0 p q s z,s=(if b.f1<a.f1 then b.f1 else a.f1)∧f_meld_Down.f a s=some (p0,0)∧f_meld_Down.f b s=some (q0,0)∧Cut a s p0.f2 p0∧Cut b s q0.f2 q0∧f_meld_Alike.f a b=some (p,q,0)∧Cut a s z p∧Cut b s z q ∧
   z=(if p0.f2<q0.f2 then zAt s q0.f2 p0.f6 p0.f7 else if q0.f2<p0.f2 then zAt s p0.f2 q0.f6 q0.f7 else p0.f2):=by
 have hs:RightS (if b.f1<a.f1 then b.f1 else a.f1):=by split;exact hb.schema;exact ha.schema
 obtain⟨p0,e1,c1⟩:=Down_eq a _ ha fa hs (by split<;>omega)
 obtain⟨q0,e2,c2⟩:=Down_eq b _ hb fb hs (by split<;>omega)
 have c1':=c1
 have c2':=c2
 rw[← c1.zeroAt] at c1'
 rw[← c2.zeroAt] at c2'
 obtain⟨p,q,z,el,cp,cq,hz⟩:=alike_loop a b p0 q0 _ _ _ c1' c2'
 refine⟨p0,q0,p,q,_,z,rfl,e1,e2,c1',c2',?_,cp,cq,hz⟩
 unfold f_meld_Alike.f
 rw[e1,sb,e2,sb,if_neg (by simp)]
 simp only[]
 rw[el]
 rfl
end Go.Proofs.Ytfkppdcfgmgllaa.PvGD3
set_option linter.unusedVariables false
set_option linter.unusedSimpArgs false
namespace Go.Proofs.Ytfkppdcfgmgllaa.PvGD3
open Go Go.Pv Go.Pv.GS
theorem addint_l0 (l:List Int) (hl:l.length<1000000):∀ (suf pre:List Int) (hi lo i:Int),l=pre++suf→i=(pre.length:Int)→U64 lo → -(pre.length:Int)≤hi→hi≤pre.length→(∀ x∈suf,I64 x) →
  ∃ hi' lo',f_num_AddInt.l0 l hi lo i=some (hi',lo')∧U64 lo'∧hi'*18446744073709551616+lo'=hi*18446744073709551616+lo+suf.sum ∧ -(l.length:Int)≤hi'∧hi'≤l.length:=by
 intro suf
 induction suf with
 | nil =>
  intro pre hi lo i h1 hi0 hlo ha hb _
  rw[List.append_nil] at h1;subst h1
  rw[f_num_AddInt.l0,if_neg (by simp[hi0])]
  exact⟨hi,lo,rfl,hlo,by simp,ha,hb⟩
 | cons x suf ih =>
  intro pre hi lo i h1 hi0 hlo ha hb hs
  have hx:=hs x (by simp)
  have hlen:(l.length:Int)=pre.length+(suf.length+1):=by rw[h1];simp
  rw[f_num_AddInt.l0,if_pos (by simp;omega),at_mid h1 hi0,sb,chkB ⟨hlo.1,(u64_wrap x).1,by omega,by omega⟩,wrap64 (n:=i+1) (by omega) (by omega)]
  rw[Int.fdiv_eq_ediv_of_nonneg _ (by omega),wrapU_eq x]
  rw[wrap64 (n:=(lo+x % 18446744073709551616+0) / 18446744073709551616) (by omega) (by omega),wrap64 (n:=x / 9223372036854775808+_) (by omega) (by omega),wrap64 (n:=hi+_) (by omega) (by omega)]
  obtain⟨hi',lo',e,g1,g2,g3,g4⟩:=ih (pre++[x]) (hi+(x / 9223372036854775808+(lo+x % 18446744073709551616+0) / 18446744073709551616)) ((lo+x % 18446744073709551616+0) % 18446744073709551616) (i+1) (by simp[h1]) (by simp;omega) ⟨by omega,by omega⟩ (by simp;omega) (by simp;omega) (fun y hy=>hs y (by simp[hy]))
  refine⟨hi',lo',e,g1,?_,g3,g4⟩
  rw[g2,List.sum_cons]
  have hx1:=hx.1
  have hx2:=hx.2
  have:x / 9223372036854775808*18446744073709551616+x % 18446744073709551616=x:=by omega
  omega
theorem addint (l:List Int) (hl:l.length<1000000) (h:∀ x∈l,I64 x):f_num_AddInt.f l=some (if I64 l.sum then(l.sum,0) else(0,5)):=by
 unfold f_num_AddInt.f
 obtain⟨hi,lo,e,g1,g2,g3,g4⟩:=addint_l0 l hl l [] 0 0 0 rfl rfl (by omega) (by simp) (by simp) h
 rw[e,sb]
 simp only[]
 rw[Int.fdiv_eq_ediv_of_nonneg _ (by omega),wrap64_eq lo]
 simp only[Int.zero_mul,Int.zero_add] at g2
 by_cases hI:I64 l.sum
 ·rw[if_pos hI,if_neg (by simp;omega)]
  congr 2;omega
 ·rw[if_neg hI,if_pos (by simp;omega)]
theorem subint {a b:Int} (ha:I64 a) (hb:I64 b):f_num_SubInt.f a b=some (if I64 (a-b) then(a-b,0) else(0,5)):=by
 unfold f_num_SubInt.f
 rw[wrap64_eq]
 by_cases hI:I64 (a-b)
 ·rw[if_pos hI]
  have e:(a-b+9223372036854775808) % 18446744073709551616-9223372036854775808=a-b:=by omega
  rw[e,if_neg]
  by_cases h:a<b
  ·simp[h]<;>omega
  ·simp[h];omega
 ·rw[if_neg hI,if_pos]
  by_cases h:a<b
  ·simp[h];omega
  ·simp[h];omega
theorem num_sub {a b:Int} (ha:U64 a) (hb:U64 b):f_num_Sub.f a b=some (if b≤a then(a-b,0) else(0,5)):=by
 unfold f_num_Sub.f
 by_cases h:b≤a
 ·rw[if_neg (by simp;omega),if_pos h,wrapU (by omega) (by omega)]
 ·rw[if_pos (by simp;omega),if_neg h]
end Go.Proofs.Ytfkppdcfgmgllaa.PvGD3
set_option linter.unusedVariables false
set_option linter.unusedSimpArgs false
namespace Go.Proofs.Ytfkppdcfgmgllaa.PvGD3
open Go Go.Pv Go.Pv.GS
open Classical
structure Pair (p q:THist):Prop where
 vp:Valid p
 vq:Valid q
 fp:Fits p
 fq:Fits q
 schema:p.f1=q.f1
 zeroAt:p.f2=q.f2
theorem Pair.bok {p q:THist} (h:Pair p q) {b:TBucket} (hb:b∈q.f6∨b∈q.f7):BOk p.f1 p.f2 b:=by
 rw[h.schema,h.zeroAt]
 rcases hb with hb | hb
 ·exact h.vq.pos.ok b hb
 ·exact h.vq.neg.ok b hb
theorem buckets_limit (h:THist) (l:List TBucket) (hl:512<l.length):f_hist_buckets.f h l=some 9:=by
 unfold f_hist_buckets.f
 rw[if_pos (by simp;omega)]
theorem check_limit (h:THist) (hf:Fits h) (hk:h.f0=0∨h.f0=1) (hs:RightS h.f1) (hz:h.f2 = -524288∨(-262144<h.f2∧h.f2≤262144)) (o6:∀ b∈h.f6,BOk h.f1 h.f2 b) (u6:h.f6.Pairwise (fun a b=>a.f0<b.f0)) (h6:h.f6.length<1000000) (h7:h.f7.length<1000000)
  (hl:512<h.f6.length∨512<h.f7.length):f_hist_Check.f h=some 9:=by
 unfold f_hist_Check.f
 have hk':((if(h.f0 != (0:Int))=true then(some (h.f0 != (1:Int))) else(some false)):Option (Bool))=some false:=by
  rcases hk with h | h<;>simp[h]
 have hz':((if(h.f2 != (-524288))=true then(if(decide (h.f2≤(-262144)))=true then(some true) else(some (decide (h.f2>(262144:Int))))) else(some false)):Option (Bool))=some false:=by
  rcases hz with h | h
  ·simp[h]
  ·split
   ·rw[if_neg (by simp;omega)];simp;omega
   ·rfl
 rw[hk',sb,if_neg (by simp),right_T hs,sb,if_neg (by simp),hz',sb,if_neg (by simp),check_l0_eq]
 by_cases c:512<h.f6.length
 ·rw[buckets_limit h h.f6 c,sb,if_pos (by simp),sb]
 ·obtain⟨r,e,i⟩:=buckets_iff h h.f6 hs (by omega) (fun b hb=>(hf.pos b hb).2)
  have hr:r=0:=i.2 ⟨by omega,o6,u6⟩
  rw[e,hr,sb,if_neg (by simp),buckets_limit h h.f7 (hl.resolve_left c),sb,if_pos (by simp),sb]
theorem make_over (g:THist) (p n:List TBucket) (hp:Bs g.f1 g.f2 p) (hn:Bs g.f1 g.f2 n) (pu:∀ b∈p,U64 b.f1) (nu:∀ b∈n,U64 b.f1) (h3:U64 g.f3) (ht:18446744073709551616≤cnt p+cnt n+g.f3):f_hist_Make.f g p n=some (h0,5):=by
 have lp:=hp.len
 have ln:=hn.len
 unfold f_hist_Make.f
 rcases tidy_spec p (by omega) pu with ⟨o,e1,c1,t1,u1,_,m1⟩ | ⟨e1,_⟩<;>rcases tidy_spec n (by omega) nu with ⟨o2,e2,c2,t2,u2,_,m2⟩ | ⟨e2,_⟩
 ·rw[e1,e2,sb,sb,if_neg (by simp),total3 o o2 g.f3 (by omega) (by omega) u1 u2 h3,if_neg (by rw[cnt_congr t1,cnt_congr t2];omega),sb,if_pos (by simp)];rfl
 ·rw[e1,e2,sb,sb];rfl
 ·rw[e1,e2,sb,sb];rfl
 ·rw[e1,e2,sb,sb];rfl
theorem make_limit (g:THist) (p n:List TBucket) (hk:g.f0=0∨g.f0=1) (hs:RightS g.f1) (hz:g.f2 = -524288∨(-262144<g.f2∧g.f2≤262144)) (h3:0≤g.f3) (h5:I64 g.f5) (hp:Bs g.f1 g.f2 p) (hn:Bs g.f1 g.f2 n) (ht:cnt p+cnt n+g.f3<18446744073709551616)
  (hl:∃ o o2,Canon o∧Canon o2∧(∀ i,tot o i=tot p i)∧(∀ i,tot o2 i=tot n i)∧(512<o.length∨512<o2.length)):f_hist_Make.f g p n=some (h0,9):=by
 have np:=cnt_nonneg hp.nn
 have nn:=cnt_nonneg hn.nn
 have lp:=hp.len
 have ln:=hn.len
 obtain⟨o,e1,c1,t1,b1,u1,l1,q1⟩:=tidy_ok hp (by omega)
 obtain⟨o2,e2,c2,t2,b2,u2,l2,q2⟩:=tidy_ok hn (by omega)
 obtain⟨w,w2,d1,d2,s1,s2,hlen⟩:=hl
 obtain rfl:=canon_unique c1 d1 (fun i=>(t1 i).trans (s1 i).symm)
 obtain rfl:=canon_unique c2 d2 (fun i=>(t2 i).trans (s2 i).symm)
 have htot:=total3 o o2 g.f3 (by omega) (by omega) u1 u2 ⟨h3,by omega⟩
 rw[q1,q2,if_pos ht] at htot
 have hf:Fits (⟨g.f0,g.f1,g.f2,g.f3,cnt p+cnt n+g.f3,g.f5,o,o2⟩:THist) :=
  ⟨by rcases hk with h | h<;>rw[h]<;>constructor<;>omega,by have:=hs.1;have:=hs.2;constructor<;>simp<;>omega,by rcases hz with h | h<;>constructor<;>simp<;>omega,⟨h3,by simp;omega⟩,⟨by simp;omega,ht⟩,h5,
   fun b hb=>⟨inS_i64 (b1 b hb).ins,u1 b hb⟩,fun b hb=>⟨inS_i64 (b2 b hb).ins,u2 b hb⟩⟩
 unfold f_hist_Make.f
 rw[e1,e2,sb,sb,if_neg (by simp),htot,sb,if_neg (by simp),check_limit _ hf hk hs hz b1 c1.up (by simp only;omega) (by simp only;omega) hlen,sb,if_pos (by simp)];rfl
theorem bs_append {p q:THist} (h:Pair p q):Bs p.f1 p.f2 (p.f6++q.f6)∧Bs p.f1 p.f2 (p.f7++q.f7):=by
 have a1:=h.vp.pos.len
 have a2:=h.vp.neg.len
 have a3:=h.vq.pos.len
 have a4:=h.vq.neg.len
 refine⟨⟨by simp;omega,fun b hb => ?_⟩,⟨by simp;omega,fun b hb => ?_⟩⟩
 ·rcases List.mem_append.1 hb with hb | hb
  ·have:=h.vp.pos.ok b hb;exact⟨this.ins,Int.le_of_lt this.pos,this.low⟩
  ·have:=h.bok (.inl hb);exact⟨this.ins,Int.le_of_lt this.pos,this.low⟩
 ·rcases List.mem_append.1 hb with hb | hb
  ·have:=h.vp.neg.ok b hb;exact⟨this.ins,Int.le_of_lt this.pos,this.low⟩
  ·have:=h.bok (.inr hb);exact⟨this.ins,Int.le_of_lt this.pos,this.low⟩
theorem u64_append {p q:THist} (h:Pair p q):(∀ b∈p.f6++q.f6,U64 b.f1)∧(∀ b∈p.f7++q.f7,U64 b.f1):=by
 constructor
 ·intro b hb
  rcases List.mem_append.1 hb with hb | hb
  ·exact(h.fp.pos b hb).2
  ·exact(h.fq.pos b hb).2
 ·intro b hb
  rcases List.mem_append.1 hb with hb | hb
  ·exact(h.fp.neg b hb).2
  ·exact(h.fq.neg b hb).2
structure Sumd (p q r:THist):Prop where
 valid:Valid r
 fits:Fits r
 kind:r.f0=if q.f0>p.f0 then q.f0 else p.f0
 schema:r.f1=p.f1
 zeroAt:r.f2=p.f2
 zero:r.f3=p.f3+q.f3
 count:r.f4=p.f4+q.f4
 sum:r.f5=p.f5+q.f5
 tpos:∀ i,tot r.f6 i=tot p.f6 i+tot q.f6 i
 tneg:∀ i,tot r.f7 i=tot p.f7 i+tot q.f7 i
end Go.Proofs.Ytfkppdcfgmgllaa.PvGD3
set_option linter.unusedVariables false
set_option linter.unusedSimpArgs false
namespace Go.Proofs.Ytfkppdcfgmgllaa.PvGD3
open Go Go.Pv Go.Pv.GS
open Classical
def Cov (a b:List TBucket):Prop:=∀ i,tot b i≤tot a i
theorem less_l1 (a0:List TBucket) (x:TBucket) (b o:List TBucket) (i:Int):f_meld_less.l1 a0 x b o i ()=some (match b with
  | [] =>.inr ()
  | y::_=>if y.f0<x.f0 then .inl ([],false) else .inr ()):=by
 unfold f_meld_less.l1
 cases b with
 | nil=>rw[if_neg (by simp),sb,if_neg (by simp)]
 | cons y b =>
  rw[if_pos (by simp),show at? (y::b) 0=some y from rfl,sb,sb]
  by_cases h:y.f0<x.f0
  ·rw[if_pos (by simpa using h)];simp[h]
  ·rw[if_neg (by simpa using h)];simp[h]
structure Left (s z:Int) (o:List TBucket):Prop where
 ok:∀ b∈o,InS s b.f0∧0≤b.f1∧z≤(b.f0-1)*stp s
 u64:∀ b∈o,U64 b.f1
theorem less_l0 (s z:Int) (a:List TBucket) (hl:a.length<1000000):∀ (suf pre b o:List TBucket) (i:Int),a=pre++suf→i=(pre.length:Int)→Canon suf→Canon b→(∀ y∈suf,BOk s z y∧U64 y.f1)→(∀ y∈b,U64 y.f1)→b.length<1000000→o.length≤pre.length →
  (∃ b' o',f_meld_less.l0 a b o i=some (.inr (b',o++o'))∧(b'=[]↔Cov suf b)∧(b'=[]→∀ i,tot o' i=tot suf i-tot b i)∧Left s z o'∧o'.length≤suf.length) ∨
  (f_meld_less.l0 a b o i=some (.inl ([],false))∧¬ Cov suf b):=by
 intro suf
 induction suf with
 | nil =>
  intro pre b o i h1 hi _ hb _ _ _ _
  rw[List.append_nil] at h1;subst h1
  rw[f_meld_less.l0,if_neg (by simp[hi])]
  refine .inl ⟨b,[],by simp,?_,fun h=>by subst h;simp[tot],⟨by simp,by simp⟩,by simp⟩
  constructor
  ·intro h;subst h;intro i;simp[tot]
  ·intro h
   cases b with
   | nil=>rfl
   | cons y b =>
    have h1:=h y.f0
    rw[hb.tot_head] at h1
    have:=hb.pos y (by simp)
    simp[tot] at h1;omega
 | cons x suf ih =>
  intro pre b o i h1 hi hs hb hxs hbs hbl ho
  have hlen:(a.length:Int)=pre.length+(suf.length+1):=by rw[h1];simp
  have hx:=hxs x (by simp)
  have hxp:=hs.pos x (by simp)
  have e1:a=(pre++[x])++suf:=by simp[h1]
  have e2:i+1=((pre++[x]).length:Int):=by simp;omega
  have hsx:=hs.tail
  have hxlow:∀ i,i≤x.f0→tot suf i=0:=fun i hi=>tot_zero (fun c hc=>by have:=(List.pairwise_cons.1 hs.up).1 c hc;omega)
  rw[f_meld_less.l0,if_pos (by simp;omega),at_mid h1 hi,sb,less_l1,sb]
  have keep:(∀ i,tot b i=if i=x.f0 then 0 else tot b i)→(((chk ((o.length+[(⟨x.f0,x.f1⟩:TBucket)].length)*16≤140737488355328))>>=fun _=>f_meld_less.l0 a b (o++[(⟨x.f0,x.f1⟩:TBucket)]) (IntKind.i64.wrap (i+1)))=f_meld_less.l0 a b (o++[x]) (i+1)) ∧
    ((∃ b' o', f_meld_less.l0 a b (o ++ [x]) (i + 1) = some (.inr (b', o ++ o')) ∧ (b' = [] ↔ Cov (x :: suf) b) ∧ (b' = [] → ∀ i, tot o' i = tot (x :: suf) i - tot b i) ∧ Left s z o' ∧ o'.length ≤ (x :: suf).length) ∨
      (f_meld_less.l0 a b (o++[x]) (i+1)=some (.inl ([],false))∧¬ Cov (x::suf) b)):=by
   intro hb0
   have hcov:Cov (x::suf) b↔Cov suf b:=by
    constructor
    ·intro h i
     have:=h i
     by_cases hi:i=x.f0
     ·have h0:=hb0 i;rw[if_pos hi] at h0
      have:=hxlow i (by omega);omega
     ·rw[tot,if_neg (fun e=>hi e.symm)] at this;omega
    ·intro h i
     have:=h i
     rw[tot];split<;>omega
   refine⟨by rw[chkB (by simp;omega),wrap64 (by omega) (by omega)],?_⟩
   rcases ih (pre++[x]) b (o++[x]) (i+1) e1 e2 hsx hb (fun y hy=>hxs y (by simp[hy])) hbs hbl (by simp;omega) with ⟨b',o',g1,g2,g3,g4,g5⟩ | ⟨g1,g2⟩
   ·refine .inl ⟨b',x::o',by rw[g1];simp,by rw[hcov];exact g2,fun h i=>by rw[tot,tot,g3 h i];omega,⟨fun y hy => ?_,fun y hy => ?_⟩,by simp;omega⟩
    ·rcases List.mem_cons.1 hy with rfl | hy
     ·exact⟨hx.1.ins,Int.le_of_lt hx.1.pos,hx.1.low⟩
     ·exact g4.ok y hy
    ·rcases List.mem_cons.1 hy with rfl | hy
     ·exact hx.2
     ·exact g4.u64 y hy
   ·exact .inr ⟨g1,by rw[hcov];exact g2⟩
  cases b with
  | nil =>
   obtain⟨k1,k2⟩:=keep (fun i=>by simp[tot])
   simp only[]
   rw[if_neg (by simp),sb,if_neg (by simp),sb]
   simp only[]
   rw[k1];exact k2
  | cons y b =>
   have hyp:=hb.pos y (by simp)
   simp only[]
   by_cases h:y.f0<x.f0
   ·rw[if_pos h]
    refine .inr ⟨rfl,fun hc => ?_⟩
    have:=hc y.f0
    rw[hb.tot_head,hs.tot_low h] at this;omega
   rw[if_neg h]
   simp only[]
   rw[if_pos (by simp),show at? (y::b) 0=some y from rfl,sb,sb]
   by_cases he:y.f0=x.f0
   case neg =>
    obtain⟨k1,k2⟩:=keep (fun i=>by
     by_cases hi:i=x.f0
     ·rw[if_pos hi,hb.tot_low (by omega)]
     ·rw[if_neg hi])
    rw[if_neg (by simpa using he),sb]
    simp only[]
    rw[k1];exact k2
   rw[if_pos (by simpa using he),sb]
   by_cases hgt:y.f1>x.f1
   ·rw[if_pos (by simpa using hgt),sb]
    refine .inr ⟨rfl,fun hc => ?_⟩
    have h2:=hc y.f0
    rw[hb.tot_head] at h2
    rw[he,hs.tot_head] at h2;omega
   rw[if_neg (by simpa using hgt),chkB (by simp;omega),sb]
   simp only[]
   have hdrop:(List.drop (Int.toNat (1:Int)) (y::b)).take (Int.toNat (((y::b).length:Int))-Int.toNat (1:Int))=b:=by
    simp
   rw[hdrop,wrapU (by omega) (by have:=hx.2;omega),chkB (by simp;omega),wrap64 (by omega) (by omega)]
   have hblow:∀ i,i≤y.f0→tot b i=0:=fun i hi=>tot_zero (fun c hc=>by have:=(List.pairwise_cons.1 hb.up).1 c hc;omega)
   have hcov:Cov (x::suf) (y::b)↔Cov suf b:=by
    constructor
    ·intro h i
     have:=h i
     simp only[tot] at this
     by_cases hi:i=x.f0
     ·rw[hblow i (by omega),hxlow i (by omega)];omega
     ·rw[if_neg (by omega),if_neg (fun e=>hi e.symm)] at this;omega
    ·intro h i
     have:=h i
     simp only[tot]
     by_cases hi:i=x.f0
     ·rw[if_pos (by omega),if_pos hi.symm,hblow i (by omega),hxlow i (by omega)];omega
     ·rw[if_neg (by omega),if_neg (fun e=>hi e.symm)];omega
   rcases ih (pre++[x]) b (o++[⟨x.f0,x.f1-y.f1⟩]) (i+1) e1 e2 hsx hb.tail (fun y hy=>hxs y (by simp[hy])) (fun c hc=>hbs c (by simp[hc])) (by simp at hbl;omega) (by simp;omega) with ⟨b',o',g1,g2,g3,g4,g5⟩ | ⟨g1,g2⟩
   ·refine .inl ⟨b',⟨x.f0,x.f1-y.f1⟩::o',by rw[g1];simp,by rw[hcov];exact g2,fun h i => ?_,⟨fun c hc => ?_,fun c hc => ?_⟩,by simp;omega⟩
    ·simp only[tot]
     rw[g3 h i]
     by_cases hi:x.f0=i
     ·rw[if_pos hi,if_pos hi,if_pos (by omega)];omega
     ·rw[if_neg hi,if_neg hi,if_neg (by omega)];omega
    ·rcases List.mem_cons.1 hc with rfl | hc
     ·exact⟨hx.1.ins,by simp;omega,hx.1.low⟩
     ·exact g4.ok c hc
    ·rcases List.mem_cons.1 hc with rfl | hc
     ·have:=hx.2;constructor<;>simp<;>omega
     ·exact g4.u64 c hc
   ·exact .inr ⟨g1,by rw[hcov];exact g2⟩
theorem less_eq (s z:Int) (a b:List TBucket) (ha:Canon a) (hb:Canon b) (hxs:∀ y∈a,BOk s z y∧U64 y.f1) (hbs:∀ y∈b,U64 y.f1) (hl:a.length<1000000) (hbl:b.length<1000000) :
  ∃ o ok,f_meld_less.f a b=some (o,ok)∧(ok=true↔Cov a b)∧(ok=true→∀ i,tot o i=tot a i-tot b i)∧(ok=true→Left s z o)∧o.length≤a.length:=by
 unfold f_meld_less.f
 rcases less_l0 s z a hl a [] b [] 0 rfl rfl ha hb hxs hbs hbl (Nat.le_refl _) with ⟨b',o',g1,g2,g3,g4,g5⟩ | ⟨g1,g2⟩
 ·rw[g1,sb]
  have hok:((b'.length:Int)==(0:Int))=true↔b'=[]:=by simp
  exact⟨o',_,by simp,by rw[hok,g2],fun h=>g3 (hok.1 h),fun _=>g4,g5⟩
 ·rw[g1,sb]
  exact⟨[],false,rfl,by simp[g2],by simp,by simp,by simp⟩
structure Lessd (p q r:THist):Prop where
 valid:Valid r
 fits:Fits r
 kind:r.f0=p.f0
 schema:r.f1=p.f1
 zeroAt:r.f2=p.f2
 zero:r.f3=p.f3-q.f3
 count:r.f4=p.f4-q.f4
 sum:r.f5=p.f5-q.f5
 tpos:∀ i,tot r.f6 i=tot p.f6 i-tot q.f6 i
 tneg:∀ i,tot r.f7 i=tot p.f7 i-tot q.f7 i
def Covs (p q:THist):Prop:=Cov p.f6 q.f6∧Cov p.f7 q.f7∧q.f3≤p.f3
end Go.Proofs.Ytfkppdcfgmgllaa.PvGD3
set_option linter.unusedVariables false
set_option linter.unusedSimpArgs false
namespace Go.Proofs.Ytfkppdcfgmgllaa.PvGD3
open Go Go.Pv Go.Pv.GS
open Classical
def empt (s:Int):THist:=⟨0,s,-524288,0,0,0,[],[]⟩
theorem empt_valid {s:Int} (h:RightS s):Valid (empt s):=⟨.inl rfl,h,.inl rfl,⟨by simp[empt],by simp[empt],by simp[empt]⟩,⟨by simp[empt],by simp[empt],by simp[empt]⟩,by simp[empt,cnt],by simp[empt,cnt]⟩
theorem empt_fits {s:Int} (h:RightS s):Fits (empt s):=by
 have h1:=h.1
 have h2:=h.2
 refine⟨?_,?_,?_,?_,?_,?_,by simp[empt],by simp[empt]⟩<;>simp only[empt]<;>constructor<;>omega
end Go.Proofs.Ytfkppdcfgmgllaa.PvGD3
set_option linter.unusedVariables false
set_option linter.unusedSimpArgs false
namespace Go.Proofs.Ytfkppdcfgmgllaa.PvGD3
open Go Go.Pv Go.Pv.GS
open Classical
theorem Alike_pairP (a b:THist) (ha:Valid a) (fa:Fits a) (hb:Valid b) (fb:Fits b) :
  ∃ p q s z,f_meld_Alike.f a b=some (p,q,0)∧Cut a s z p∧Cut b s z q∧Pair p q:=by
 obtain⟨p0,q0,p,q,s,z,_,_,_,_,_,e,cp,cq,_⟩:=Alike_eq a b ha fa hb fb
 exact⟨p,q,s,z,e,cp,cq,cp.valid,cq.valid,cp.fits,cq.fits,cp.schema.trans cq.schema.symm,cp.zeroAt.trans cq.zeroAt.symm⟩
theorem Add_casesP (a b p q:THist) (s z:Int) (fa:Fits a) (fb:Fits b) (he:f_meld_Alike.f a b=some (p,q,0)) (cp:Cut a s z p) (cq:Cut b s z q) (hp:Pair p q) :
  (∃ e,e≠0∧f_meld_Add.f a b=some (h0,e))∨∃ r,f_meld_Add.f a b=some (r,0)∧Sumd p q r:=by
 have kp:=cp.kind
 have kq:=cq.kind
 have a1:=hp.vp.pos.len
 have a2:=hp.vp.neg.len
 have a3:=hp.vq.pos.len
 have a4:=hp.vq.neg.len
 have c1:=hp.vp.count
 have c2:=hp.vq.count
 have n1:=cnt_nonneg hp.vp.pos.canon.nn
 have n2:=cnt_nonneg hp.vp.neg.canon.nn
 have n3:=cnt_nonneg hp.vq.pos.canon.nn
 have n4:=cnt_nonneg hp.vq.neg.canon.nn
 have z1:=hp.fp.zero
 have z2:=hp.fq.zero
 have hsum:([a.f5,b.f5]:List Int).sum=a.f5+b.f5:=by simp
 have hAI:=addint [a.f5,b.f5] (by simp) (by simp;exact⟨fa.sum,fb.sum⟩)
 rw[hsum] at hAI
 obtain⟨B6,B7⟩:=bs_append hp
 obtain⟨U6,U7⟩:=u64_append hp
 have ht:cnt (p.f6++q.f6)+cnt (p.f7++q.f7)+(p.f3+q.f3)=p.f4+q.f4:=by rw[cnt_append,cnt_append];omega
 by_cases hI:I64 (a.f5+b.f5)
 case neg =>
  refine .inl ⟨5,by simp,?_⟩
  unfold f_meld_Add.f;rw[hAI,if_neg hI,sb,he,sb];rfl
 rw[if_pos hI] at hAI
 have hk:(if b.f0>a.f0 then b.f0 else a.f0)=(if q.f0>p.f0 then q.f0 else p.f0):=by rw[kp,kq]
 have hkk:(if b.f0>a.f0 then b.f0 else a.f0)=0∨(if b.f0>a.f0 then b.f0 else a.f0)=1:=by
  rw[hk];split;exact hp.vq.kind;exact hp.vp.kind
 by_cases hc:p.f4+q.f4<18446744073709551616
 case neg =>
  refine .inl ⟨5,by simp,?_⟩
  unfold f_meld_Add.f
  rw[hAI,sb,he,sb,if_neg (by simp),num_add2 z1 z2,sb]
  by_cases hz:p.f3+q.f3<18446744073709551616
  ·rw[if_pos hz,if_neg (by simp)]
   dsimp only
   rw[chkB (by simp;omega),chkB (by omega),chkB (by simp;omega),chkB (by omega)]
   rw[make_over (⟨(if b.f0>a.f0 then b.f0 else a.f0),p.f1,p.f2,p.f3+q.f3,0,a.f5+b.f5,[],[]⟩:THist) _ _ B6 B7 U6 U7 ⟨by simp;omega,hz⟩ (by simp only;omega)];rfl
  ·rw[if_neg hz,if_pos (by simp)];rfl
 have hz:p.f3+q.f3<18446744073709551616:=by omega
 have m6:=cnt_nonneg B6.nn
 have m7:=cnt_nonneg B7.nn
 obtain⟨o6,_,C6,T6,_,_,L6,_⟩:=tidy_ok B6 (by have:=z1.1;have:=z2.1;omega)
 obtain⟨o7,_,C7,T7,_,_,L7,_⟩:=tidy_ok B7 (by have:=z1.1;have:=z2.1;omega)
 have hprog:∀ x,f_hist_Make.f (⟨(if b.f0>a.f0 then b.f0 else a.f0),p.f1,p.f2,p.f3+q.f3,0,a.f5+b.f5,[],[]⟩:THist) (p.f6++q.f6) (p.f7++q.f7)=some x→f_meld_Add.f a b=some x:=by
  intro x hx
  unfold f_meld_Add.f
  rw[hAI,sb,he,sb,if_neg (by simp),num_add2 z1 z2,if_pos hz,sb,if_neg (by simp)]
  dsimp only
  rw[chkB (by simp;omega),chkB (by omega),chkB (by simp;omega),chkB (by omega),hx];rfl
 by_cases hlim:512<o6.length∨512<o7.length
 ·exact .inl ⟨9,by simp,hprog _ (make_limit (⟨(if b.f0>a.f0 then b.f0 else a.f0),p.f1,p.f2,p.f3+q.f3,0,a.f5+b.f5,[],[]⟩:THist) _ _ hkk hp.vp.schema hp.vp.zero (by simp;omega) hI B6 B7 (by simp only;omega) ⟨o6,o7,C6,C7,T6,T7,hlim⟩)⟩
 ·obtain⟨r,e,v,f,e0,e1,e2,e3,e5,x6,x7,e4⟩:=make_valid (⟨(if b.f0>a.f0 then b.f0 else a.f0),p.f1,p.f2,p.f3+q.f3,0,a.f5+b.f5,[],[]⟩:THist) (p.f6++q.f6) (p.f7++q.f7) hkk hp.vp.schema hp.vp.zero (by simp;omega) hI B6 B7 (by simp only;omega) (fun o ho hto=>by
   rcases hto with hto | hto
   ·rw[canon_unique ho C6 (fun i=>(hto.1 i).trans (T6 i).symm)];omega
   ·rw[canon_unique ho C7 (fun i=>(hto.1 i).trans (T7 i).symm)];omega)
  exact .inr ⟨r,hprog _ e,v,f,e0.trans hk,e1,e2,e3,by rw[e4];exact ht,by rw[e5,cp.sum,cq.sum],fun i=>by rw[x6,tot_append],fun i=>by rw[x7,tot_append]⟩
theorem Sub_casesP (a b p q:THist) (s z:Int) (fa:Fits a) (fb:Fits b) (he:f_meld_Alike.f a b=some (p,q,0)) (cp:Cut a s z p) (cq:Cut b s z q) (hp:Pair p q) :
  f_meld_Sub.f a b=some (h0,21)∨f_meld_Sub.f a b=some (h0,5)∨(∃ r,f_meld_Sub.f a b=some (r,0)∧Lessd p q r):=by
 have a1:=hp.vp.pos.len
 have a2:=hp.vp.neg.len
 have a3:=hp.vq.pos.len
 have a4:=hp.vq.neg.len
 have c1:=hp.vp.count
 have c2:=hp.vq.count
 have hU:=hp.fp.count
 have z1:=hp.fp.zero
 have z2:=hp.fq.zero
 have hSI:=subint fa.sum fb.sum
 obtain⟨o6,k6,e6,i6,t6,L6,m6⟩:=less_eq p.f1 p.f2 p.f6 q.f6 hp.vp.pos.canon hp.vq.pos.canon (fun y hy=>⟨hp.vp.pos.ok y hy,(hp.fp.pos y hy).2⟩) (fun y hy=>(hp.fq.pos y hy).2) (by omega) (by omega)
 obtain⟨o7,k7,e7,i7,t7,L7,m7⟩:=less_eq p.f1 p.f2 p.f7 q.f7 hp.vp.neg.canon hp.vq.neg.canon (fun y hy=>⟨hp.vp.neg.ok y hy,(hp.fp.neg y hy).2⟩) (fun y hy=>(hp.fq.neg y hy).2) (by omega) (by omega)
 have hzs:=num_sub z1 z2
 have hcond:((if(!k6)=true then(some true) else(if(!k7)=true then(some true) else(some (((if q.f3≤p.f3 then((p.f3-q.f3,0):Int×Int) else(0,5)).2 != (0:Int)))))):Option (Bool))=some (!decide (Covs p q)):=by
  unfold Covs
  cases h6:k6 with
  | false => have : ¬ Cov p.f6 q.f6 := by rw [← i6, h6]; simp
             simp[this]
  | true =>
   have h6c:Cov p.f6 q.f6:=i6.1 h6
   cases h7:k7 with
   | false => have : ¬ Cov p.f7 q.f7 := by rw [← i7, h7]; simp
              simp[this]
   | true =>
    have h7c:Cov p.f7 q.f7:=i7.1 h7
    by_cases h3:q.f3≤p.f3<;>simp[h6c,h7c,h3]
 by_cases hcv:Covs p q
 case neg =>
  refine .inl ?_
  ·unfold f_meld_Sub.f
   rw[hSI,sb,he,sb,if_neg (by simp)]
   dsimp only
   rw[e6,e7,hzs,sb,sb,sb,hcond,sb,if_pos (by simp[hcv])];rfl
 by_cases hI:I64 (a.f5-b.f5)
 case neg =>
  refine .inr (.inl ?_)
  ·unfold f_meld_Sub.f
   rw[hSI,sb,he,sb,if_neg (by simp)]
   dsimp only
   rw[e6,e7,hzs,sb,sb,sb,hcond,sb,if_neg (by simp[hcv]),if_neg hI,if_pos (by simp)];rfl
 obtain⟨h6,h7,h3⟩:=hcv
 have T6:=t6 (i6.2 h6)
 have T7:=t7 (i7.2 h7)
 have M6:=L6 (i6.2 h6)
 have M7:=L7 (i7.2 h7)
 have q6:cnt o6=cnt p.f6-cnt q.f6:=by
  have h:=cnt_congr (l:=o6) (l':=p.f6++negl q.f6) (fun i=>by rw[T6,tot_append,tot_negl];omega)
  rw[h,cnt_append,cnt_wsum (negl q.f6),wsum_negl,← cnt_wsum];omega
 have q7:cnt o7=cnt p.f7-cnt q.f7:=by
  have h:=cnt_congr (l:=o7) (l':=p.f7++negl q.f7) (fun i=>by rw[T7,tot_append,tot_negl];omega)
  rw[h,cnt_append,cnt_wsum (negl q.f7),wsum_negl,← cnt_wsum];omega
 have n6:=cnt_nonneg (l:=o6) (fun b hb=>(M6.ok b hb).2.1)
 have n7:=cnt_nonneg (l:=o7) (fun b hb=>(M7.ok b hb).2.1)
 have hn1:=cnt_nonneg hp.vq.pos.canon.nn
 have hn2:=cnt_nonneg hp.vq.neg.canon.nn
 obtain⟨r,e,v,f,e0,e1,e2,e3,e5,x6,x7,e4⟩:=make_valid (⟨p.f0,p.f1,p.f2,p.f3-q.f3,p.f4,a.f5-b.f5,p.f6,p.f7⟩:THist) o6 o7 hp.vp.kind hp.vp.schema hp.vp.zero (by simp only;omega) hI ⟨by omega,M6.ok⟩ ⟨by omega,M7.ok⟩ (by simp only;omega) (fun o ho hto=>by
  rcases hto with hto | hto
  ·exact Nat.le_trans hto.2 (by omega)
  ·exact Nat.le_trans hto.2 (by omega))
 refine .inr (.inr ⟨r,?_,⟨v,f,e0,e1,e2,e3,by rw[e4,q6,q7];simp only;omega,by rw[e5,cp.sum,cq.sum],fun i=>by rw[x6,T6],fun i=>by rw[x7,T7]⟩⟩)
 ·unfold f_meld_Sub.f
  rw[hSI,sb,he,sb,if_neg (by simp)]
  dsimp only
  rw[e6,e7,hzs,sb,sb,sb,hcond,sb,if_neg (by simp[Covs,h6,h7,h3]),if_pos hI,if_neg (by simp),if_pos h3]
  dsimp only
  rw[e];rfl
theorem sub_anyP (x y:THist) (vx:Valid x) (fx:Fits x) (vy:Valid y) (fy:Fits y):∃ r e,f_meld_Sub.f x y=some (r,e)∧((e=0∧Valid r∧Fits r)∨(r=h0∧(e=21∨e=5))):=by
 obtain⟨p,q,s,z,e,cp,cq,hp⟩:=Alike_pairP x y vx fx vy fy
 rcases Sub_casesP x y p q s z fx fy e cp cq hp with h1 | h1 | ⟨r,h1,h3⟩
 ·exact⟨_,_,h1,.inr ⟨rfl,.inl rfl⟩⟩
 ·exact⟨_,_,h1,.inr ⟨rfl,.inr rfl⟩⟩
 ·exact⟨_,_,h1,.inl ⟨rfl,h3.valid,h3.fits⟩⟩
theorem add_anyP (x y:THist) (vx:Valid x) (fx:Fits x) (vy:Valid y) (fy:Fits y):∃ r e,f_meld_Add.f x y=some (r,e)∧((e=0∧Valid r∧Fits r∧r.f4=x.f4+y.f4∧r.f5=x.f5+y.f5)∨(r=h0∧e≠0)):=by
 obtain⟨p,q,s,z,e,cp,cq,hp⟩:=Alike_pairP x y vx fx vy fy
 rcases Add_casesP x y p q s z fx fy e cp cq hp with ⟨e,he,h1⟩ | ⟨r,h1,h3⟩
 ·exact⟨_,_,h1,.inr ⟨rfl,he⟩⟩
 ·exact⟨_,_,h1,.inl ⟨rfl,h3.valid,h3.fits,by rw[h3.count,cp.count,cq.count],by rw[h3.sum,cp.sum,cq.sum]⟩⟩
noncomputable def gap (x y:THist):THist:=match f_meld_Sub.f y x with
 | some (d,e)=>if e=21 then y else d
 | none=>y
noncomputable def gaps (g:THist→Int):List THist→Int
 | []=>0
 | [_]=>0
 | x::y::l=>g (gap x y)+gaps g (y::l)
theorem riseP_l0 (l:List THist) (hl:l.length<1000000):∀ (suf pre:List THist) (i:Int),l=pre++suf→i=(pre.length:Int)→∃ r,f_meld_Rise.l0 l i=some r∧(r = .inl (h0,25)∨(r = .inr ()∧∀ h∈suf,h.f0=0)):=by
 intro suf
 induction suf with
 | nil=>intro pre i h1 hi;rw[List.append_nil] at h1;subst h1;rw[f_meld_Rise.l0,if_neg (by simp[hi])];exact⟨_,rfl,.inr ⟨rfl,by simp⟩⟩
 | cons x suf ih =>
  intro pre i h1 hi
  have hlen:(l.length:Int)=pre.length+(suf.length+1):=by rw[h1];simp
  rw[f_meld_Rise.l0,if_pos (by simp;omega),at_mid h1 hi,sb,wrap64 (by omega) (by omega)]
  by_cases c:x.f0=0
  ·rw[if_neg (by simpa using c)]
   obtain⟨r,e,hr⟩:=ih (pre++[x]) (i+1) (by simp[h1]) (by simp;omega)
   refine⟨r,e,?_⟩
   rcases hr with hr | ⟨hr,h2⟩
   ·exact .inl hr
   ·refine .inr ⟨hr,fun h hh => ?_⟩
    rcases List.mem_cons.1 hh with rfl | hh
    ·exact c
    ·exact h2 h hh
  ·rw[if_pos (by simpa using c)];exact⟨_,rfl,.inl rfl⟩
theorem riseP_l1 (l:List THist) (hl:l.length<1000000) (hv:∀ h∈l,Valid h∧Fits h):∀ (suf pre:List THist) (y o:THist) (i:Int),l=pre++y::suf→i=(pre.length:Int)+1→Valid o→Fits o →
  ∃ r,f_meld_Rise.l1 l (o.f0,o.f1,o.f2,o.f3,o.f4,o.f5,o.f6,o.f7,i)=some r∧((∃ e,r = .inl (h0,e)∧e≠0)∨∃ o':THist,r = .inr (o'.f0,o'.f1,o'.f2,o'.f3,o'.f4,o'.f5,o'.f6,o'.f7)∧Valid o'∧Fits o'∧o'.f4=o.f4+gaps (·.f4) (y::suf)∧o'.f5=o.f5+gaps (·.f5) (y::suf)):=by
 intro suf
 induction suf with
 | nil =>
  intro pre y o i h1 hi vo fo
  have hlen:(l.length:Int)=pre.length+1:=by rw[h1];simp
  rw[f_meld_Rise.l1]
  try dsimp only
  rw[if_neg (by simp;omega)]
  exact⟨_,rfl,.inr ⟨o,rfl,vo,fo,by simp[gaps],by simp[gaps]⟩⟩
 | cons x suf ih =>
  intro pre y o i h1 hi vo fo
  have hlen:(l.length:Int)=pre.length+(suf.length+1+1):=by rw[h1];simp
  have vx:=hv x (by rw[h1];simp)
  have vy:=hv y (by rw[h1];simp)
  have e1:l=(pre++[y])++x::suf:=by simp[h1]
  have e2:i+1=((pre++[y]).length:Int)+1:=by simp;omega
  obtain⟨d,e,S1,hS⟩:=sub_anyP x y vx.1 vx.2 vy.1 vy.2
  have hlx:x.f6.length<1000000000∧x.f7.length<1000000000:=by have:=vx.1.pos.len;have:=vx.1.neg.len;omega
  have P:∀ (c r:THist) (e':Int),((e=0∧c=d)∨(e=21∧c=x))→f_meld_Add.f o c=some (r,e')→f_meld_Rise.l1 l (o.f0,o.f1,o.f2,o.f3,o.f4,o.f5,o.f6,o.f7,i)=if e'=0 then f_meld_Rise.l1 l (r.f0,r.f1,r.f2,r.f3,r.f4,r.f5,r.f6,r.f7,i+1) else some (.inl (h0,e')):=by
   intro c r e' hc hA
   conv=>lhs;rw[f_meld_Rise.l1]
   try dsimp only
   rw[if_pos (by simp;omega),at_mid e1 (by simp;omega),sb,wrap64 (n:=i-1) (by omega) (by omega),at_mid h1 (by omega),sb,S1,sb,wrap64 (n:=i+1) (by omega) (by omega)]
   rcases hc with ⟨rfl,rfl⟩ | ⟨rfl,rfl⟩
   ·rw[if_neg (by simp),sb]
    try dsimp only
    rw[if_pos (by simp),hA,sb]
    try dsimp only
    by_cases h:e'=0<;>simp[h,h0]
   ·rw[if_pos (by simp),clone_eq c hlx.1 hlx.2,sb,sb]
    try dsimp only
    rw[if_pos (by simp),hA,sb]
    try dsimp only
    by_cases h:e'=0<;>simp[h,h0]
  have fin:∀ c,gap y x=c→Valid c→Fits c→((e=0∧c=d)∨(e=21∧c=x))→∃ r,f_meld_Rise.l1 l (o.f0,o.f1,o.f2,o.f3,o.f4,o.f5,o.f6,o.f7,i)=some r∧((∃ e,r = .inl (h0,e)∧e≠0)∨∃ o':THist,r = .inr (o'.f0,o'.f1,o'.f2,o'.f3,o'.f4,o'.f5,o'.f6,o'.f7)∧Valid o'∧Fits o'∧o'.f4=o.f4+gaps (·.f4) (y::x::suf)∧o'.f5=o.f5+gaps (·.f5) (y::x::suf)):=by
   intro c hg vc fc hc
   obtain⟨r,e',A1,hA⟩:=add_anyP o c vo fo vc fc
   rw[P c r e' hc A1]
   rcases hA with ⟨rfl,vr,fr,g4,g5⟩ | ⟨rfl,he⟩
   ·rw[if_pos rfl]
    obtain⟨r',E,hr⟩:=ih (pre++[y]) x r (i+1) e1 e2 vr fr
    refine⟨r',E,?_⟩
    rcases hr with hr | ⟨o',hr,v',f',k4,k5⟩
    ·exact .inl hr
    ·exact .inr ⟨o',hr,v',f',by rw[k4,g4,gaps,hg];omega,by rw[k5,g5,gaps,hg];omega⟩
   ·rw[if_neg he];exact⟨_,rfl,.inl ⟨_,rfl,he⟩⟩
  rcases hS with ⟨rfl,vd,fd⟩ | ⟨rfl,rfl | rfl⟩
  ·exact fin d (by simp[gap,S1]) vd fd (.inl ⟨rfl,rfl⟩)
  ·exact fin x (by simp[gap,S1]) vx.1 vx.2 (.inr ⟨rfl,rfl⟩)
  ·refine⟨.inl (h0,5),?_,.inl ⟨_,rfl,by simp⟩⟩
   rw[f_meld_Rise.l1]
   try dsimp only
   rw[if_pos (by simp;omega),at_mid e1 (by simp;omega),sb,wrap64 (n:=i-1) (by omega) (by omega),at_mid h1 (by omega),sb,S1,sb,if_neg (by simp),sb]
   rfl
theorem riseP (l:List THist) (hl:l.length<1000000) (hv:∀ h∈l,Valid h∧Fits h):∃ o e,f_meld_Rise.f l=some (o,e)∧((o=h0∧e≠0)∨(e=0∧Valid o∧Fits o∧o.f4=gaps (·.f4) l∧o.f5=gaps (·.f5) l)):=by
 unfold f_meld_Rise.f f_hist_Empty.f
 cases l with
 | nil=>rw[if_pos (by simp)];exact⟨_,_,rfl,.inl ⟨rfl,by simp⟩⟩
 | cons x l =>
  by_cases h2:(((x::l).length:Int)<2)
  ·rw[if_pos (by simpa using h2)];exact⟨_,_,rfl,.inl ⟨rfl,by simp⟩⟩
  rw[if_neg (by simpa using h2)]
  obtain⟨r,e,hr⟩:=riseP_l0 (x::l) hl (x::l) [] 0 rfl rfl
  rw[e,sb]
  rcases hr with rfl | ⟨rfl,_⟩
  ·exact⟨_,_,rfl,.inl ⟨rfl,by simp⟩⟩
  ·have vx:=hv x (by simp)
   obtain⟨r,e,hr⟩:=riseP_l1 (x::l) hl hv l [] x (empt x.f1) 1 rfl (by simp) (empt_valid vx.1.schema) (empt_fits vx.1.schema)
   try dsimp only
   rw[show at? (x::l) 0=some x from rfl,sb,sb]
   dsimp only[empt] at e
   try dsimp only
   rw[e,sb]
   rcases hr with ⟨e,rfl,he⟩ | ⟨o',rfl,v',f',k4,k5⟩
   ·exact⟨_,_,rfl,.inl ⟨rfl,he⟩⟩
   ·exact⟨_,_,rfl,.inr ⟨rfl,v',f',by rw[k4];simp[empt],by rw[k5];simp[empt]⟩⟩
end Go.Proofs.Ytfkppdcfgmgllaa.PvGD3
set_option linter.unusedVariables false
set_option linter.unusedSimpArgs false
set_option maxRecDepth 10000
namespace Go.Proofs.Ytfkppdcfgmgllaa.PvGD3
open Go Go.Pv Go.Pv.GS
structure Ups (l:List TSample):Prop where
 ok:∀ s∈l,Valid s.f1∧0≤s.f0∧s.f0≤1099511627776
 up:l.Pairwise (fun a b=>a.f0<b.f0)
theorem ups_len:∀ (l:List TSample) (a:Int),l.Pairwise (fun a b=>a.f0<b.f0)→(∀ s∈l,a≤s.f0∧s.f0≤1099511627776)→0≤a→a≤1099511627777→(l.length:Int)≤1099511627777-a
 | [],a,_,_,_,h=>by simp;omega
 | x::l,a,hp,h,ha,hb=>by
  have hx:=h x (by simp)
  have:=ups_len l (x.f0+1) (List.pairwise_cons.1 hp).2 (fun s hs=>by
   have:=(List.pairwise_cons.1 hp).1 s hs
   have:=h s (by simp[hs])
   omega) (by omega) (by omega)
  simp only[List.length_cons];omega
theorem rising_l0 (l:List TSample) (hl:(l.length:Int)≤140737488351232) (hR:∀ s∈l,RSample s):∀ (suf pre:List TSample) (i:Int),l=pre++suf→i=(pre.length:Int)→Ups pre →
  ∃ r,f_pluvialref15_Rising.l0 l i=some r∧(r = .inl false∨(r = .inr ()∧Ups l)):=by
 intro suf
 induction suf with
 | nil =>
  intro pre i h1 hi hu
  rw[List.append_nil] at h1;subst h1
  rw[f_pluvialref15_Rising.l0,if_neg (by simp[hi])]
  exact⟨_,rfl,.inr ⟨rfl,hu⟩⟩
 | cons s suf ih =>
  intro pre i h1 hi hu
  have hlen:(l.length:Int)=pre.length+(suf.length+1):=by rw[h1];simp
  have hs:=hR s (by rw[h1];simp)
  have h6:=hs.r1.r6.1
  have h7:=hs.r1.r7.1
  obtain⟨r,er,hr⟩:=ref_check_iff s.f1 (fits_of hs.r1) (by omega) (by omega)
  rw[f_pluvialref15_Rising.l0,if_pos (by simp;omega),at_mid h1 hi,sb,rtime,sb]
  by_cases ht:0≤s.f0∧s.f0≤1099511627776
  case neg=>rw[if_pos (by rw[decide_eq_false ht];rfl),sb,if_pos rfl];exact⟨_,rfl,.inl rfl⟩
  rw[if_neg (by rw[decide_eq_true ht];simp),er,sb]
  by_cases hr0:r=0
  case neg=>rw[if_pos (by simpa using hr0),sb,if_pos rfl];exact⟨_,rfl,.inl rfl⟩
  rw[if_neg (by simpa using hr0)]
  have hv:=hr.1 hr0
  rcases List.eq_nil_or_concat pre with rfl | ⟨P,p,rfl⟩
  ·rw[if_neg (by simp[hi]),sb,if_neg (by simp),wrap64 (n:=i+1) (by omega) (by omega)]
   exact ih [s] (i+1) (by simp[h1]) (by simp[hi]) ⟨by simp;exact⟨hv,ht⟩,by simp⟩
  ·simp only[List.concat_eq_append] at *
   have hi2:i=(P.length:Int)+1:=by rw[hi];simp
   rw[if_pos (by simp;omega),wrap64 (n:=i-1) (by omega) (by omega),at_mid (pre:=P) (x:=p) (suf:=s::suf) (by simp[h1]) (by omega),sb,sb]
   by_cases hlt:s.f0≤p.f0
   ·rw[if_pos (by simpa using hlt)];exact⟨_,rfl,.inl rfl⟩
   ·rw[if_neg (by simpa using hlt),wrap64 (n:=i+1) (by simp at hlen;omega) (by simp at hlen;omega)]
    refine ih (P++[p]++[s]) (i+1) (by simp[h1]) (by simp;omega) ⟨fun c hc => ?_,?_⟩
    ·rcases List.mem_append.1 hc with hc | hc
     ·exact hu.ok c hc
     ·simp at hc;subst hc;exact⟨hv,ht⟩
    ·refine List.pairwise_append.2 ⟨hu.up,by simp,fun a ha b hb => ?_⟩
     simp at hb;subst hb
     rcases List.mem_append.1 ha with ha | ha
     ·have:=(List.pairwise_append.1 hu.up).2.2 a ha p (by simp);omega
     ·simp at ha;subst ha;omega
def lw:List TSample→Int→Int
 | [],x=>x
 | s::l,x=>lw l (IntKind.i64.wrap (x+(IntKind.i64.wrap ((IntKind.i64.wrap ((1:Int)+(s.f1.f6.length:Int)))+(s.f1.f7.length:Int)))))
theorem light_l0 (l:List TSample) (hl:(l.length:Int)≤140737488351232):∀ (suf pre:List TSample) (x i:Int),l=pre++suf→i=(pre.length:Int)→f_pluviallaw19_light.l0 l x i=some (lw suf x):=by
 intro suf
 induction suf with
 | nil=>intro pre x i h1 hi;rw[List.append_nil] at h1;subst h1;rw[f_pluviallaw19_light.l0,if_neg (by simp[hi])];rfl
 | cons s suf ih =>
  intro pre x i h1 hi
  have hlen:(l.length:Int)=pre.length+(suf.length+1):=by rw[h1];simp
  rw[f_pluviallaw19_light.l0,if_pos (by simp;omega),at_mid h1 hi,sb,wrap64 (n:=i+1) (by omega) (by omega),ih (pre++[s]) _ (i+1) (by simp[h1]) (by simp;omega)]
  rfl
theorem lw_ge:∀ (l:List TSample) (x:Int),(∀ s∈l,Valid s.f1)→0≤x→x+2000*(l.length:Int)≤9000000000000000000→x+(l.length:Int)≤lw l x
 | [],x,_,_,_=>by simp[lw]
 | s::l,x,hv,h0,hb=>by
  have v:=hv s (by simp)
  have h6:=v.pos.len
  have h7:=v.neg.len
  simp only[List.length_cons] at hb ⊢
  rw[lw,wrap64 (n:=(1:Int)+(s.f1.f6.length:Int)) (by omega) (by omega),wrap64 (n:=(1:Int)+(s.f1.f6.length:Int)+(s.f1.f7.length:Int)) (by omega) (by omega),wrap64 (n:=x+((1:Int)+(s.f1.f6.length:Int)+(s.f1.f7.length:Int))) (by omega) (by omega)]
  have:=lw_ge l (x+((1:Int)+(s.f1.f6.length:Int)+(s.f1.f7.length:Int))) (fun s hs=>hv s (by simp[hs])) (by omega) (by omega)
  omega
theorem light_list (l:List TSample) (hl:(l.length:Int)≤140737488351232) (hR:∀ s∈l,RSample s):∃ b,f_pluviallaw19_light.f l=some b∧(b=true→Ups l∧l.length≤400):=by
 unfold f_pluviallaw19_light.f
 rw[light_l0 l hl l [] 0 0 rfl rfl,sb]
 by_cases hn:lw l 0≤400
 case neg=>rw[if_neg (by simpa using hn),sb];exact⟨false,rfl,by simp⟩
 rw[if_pos (by simpa using hn)]
 unfold f_pluvialref15_Rising.f
 obtain⟨r,e,hr⟩:=rising_l0 l hl hR l [] 0 rfl rfl ⟨by simp,by simp⟩
 rw[e,sb]
 rcases hr with rfl | ⟨rfl,hu⟩
 ·exact⟨false,rfl,by simp⟩
 ·refine⟨true,rfl,fun _=>⟨hu,?_⟩⟩
  have h1:=ups_len l 0 hu.up (fun s hs=>⟨(hu.ok s hs).2.1,(hu.ok s hs).2.2⟩) (by omega) (by omega)
  have:=lw_ge l 0 (fun s hs=>(hu.ok s hs).1) (by omega) (by omega)
  omega
structure Lit (l:List TSample):Prop where
 ok:∀ s∈l,Valid s.f1∧Fits s.f1
 len:l.length≤400
theorem Lit.filter {l:List TSample} (h:Lit l) (p:TSample→Bool):Lit (l.filter p) :=
 ⟨fun s hs=>h.ok s (List.mem_filter.1 hs).1,Nat.le_trans (List.length_filter_le _ _) h.len⟩
theorem of_l0 (l:List TSample) (hl:l.length≤400):∀ (suf pre:List TSample) (o:List THist) (i:Int),l=pre++suf→i=(pre.length:Int)→o.length=pre.length→f_eval_Of.l0 l o i=some (o++suf.map (·.f1)):=by
 intro suf
 induction suf with
 | nil=>intro pre o i h1 hi ho;rw[List.append_nil] at h1;subst h1;rw[f_eval_Of.l0,if_neg (by simp[hi])];simp
 | cons s suf ih =>
  intro pre o i h1 hi ho
  have hlen:l.length=pre.length+(suf.length+1):=by rw[h1];simp
  rw[f_eval_Of.l0,if_pos (by simp;omega),at_mid h1 hi,sb,chkB (by simp;omega),wrap64 (n:=i+1) (by omega) (by omega),ih (pre++[s]) _ (i+1) (by simp[h1]) (by simp;omega) (by simp[ho])]
  simp
theorem of_rise (q:Teval_Ask) (l:List TSample) (h:Lit l) (h5:q.f0=5):f_eval_Of.f q l=f_meld_Rise.f ((l.filter (inWin q.f4 q.f5)).map (·.f1)):=by
 have hw:=h.filter (inWin q.f4 q.f5)
 have hlen:=h.len
 unfold f_eval_Of.f
 rw[win_eq l (by omega),sb,if_pos (by simpa using h5),of_l0 _ hw.len (l.filter (inWin q.f4 q.f5)) [] [] 0 rfl rfl rfl,sb,List.nil_append]
 cases f_meld_Rise.f ((l.filter (inWin q.f4 q.f5)).map (·.f1)) with
 | none=>rfl
 | some p=>rfl
theorem of_tot (q:Teval_Ask) (l:List TSample) (h:Lit l):∃ x e,f_eval_Of.f q l=some (x,e)∧(e=0→Valid x∧Fits x):=by
 have hw:=h.filter (inWin q.f4 q.f5)
 have hlen:=h.len
 have hwl:=hw.len
 by_cases h5:q.f0=5
 ·rw[of_rise q l h h5]
  obtain⟨o,e,E,hr⟩:=riseP ((l.filter (inWin q.f4 q.f5)).map (·.f1)) (by simp only[List.length_map];omega) (fun x hx=>by
   obtain⟨s,hs,rfl⟩:=List.mem_map.1 hx
   exact hw.ok s hs)
  refine⟨o,e,E,fun h0 => ?_⟩
  rcases hr with ⟨_,h1⟩ | ⟨_,h1,h2,_⟩
  ·exact absurd h0 h1
  ·exact⟨h1,h2⟩
 ·unfold f_eval_Of.f
  rw[win_eq l (by omega),sb,if_neg (by simpa using h5)]
  rcases List.eq_nil_or_concat (l.filter (inWin q.f4 q.f5)) with hn | ⟨P,p,hn⟩
  ·rw[hn,if_pos (by simp)];exact⟨_,_,rfl,by simp⟩
  ·simp only[List.concat_eq_append] at hn
   rw[hn] at hw hwl ⊢
   have hp:=hw.ok p (by simp)
   simp only[List.length_append,List.length_cons,List.length_nil] at hwl
   rw[if_neg (by simp<;>omega),wrap64 (by simp<;>omega) (by simp<;>omega),at_mid (pre:=P) (x:=p) (suf:=[]) (by simp) (by simp),sb,clone_eq p.f1 (by have:=hp.1.pos.len;omega) (by have:=hp.1.neg.len;omega),sb]
   exact⟨_,_,rfl,fun _=>hp⟩
def Small (h:THist):Prop:=h.f6.length<1000000∧h.f7.length<1000000
theorem do_tot (q:Teval_Ask) (l:List TSample) (h:Lit l) (hp:U64 q.f1) (ho:U64 q.f2):∃ a e,f_eval_Do.f q l=some (a,e)∧Small a.f0:=by
 unfold f_eval_Do.f
 have hb:((if(decide (q.f0<(0:Int)))=true then(some true) else(some (decide (q.f0>(5:Int))))):Option (Bool))=some (decide (q.f0<0)||decide (q.f0>5)):=by
  by_cases c:q.f0<0<;>simp[c]
 rw[hb,sb]
 by_cases hk:(decide (q.f0<0)||decide (q.f0>5))=true
 ·rw[if_pos hk];exact⟨_,_,rfl,by simp[Small]⟩
 rw[if_neg hk]
 obtain⟨x,e,E,hx⟩:=of_tot q l h
 rw[E,sb]
 by_cases he:e=0
 ·obtain⟨v,f⟩:=hx he
  rw[if_neg (by simpa using he)]
  obtain⟨a,e',E',_,_,_,hs⟩:=finish_tot q v f hp ho
  rw[show f_eval_Finish.f q (x,e).1=_ from E',sb]
  refine⟨_,_,rfl,?_⟩
  have h6:=v.pos.len
  have h7:=v.neg.len
  rcases hs with hs | hs<;>simp only[hs,Small]<;>constructor<;>(try simp)<;>omega
 ·rw[if_pos (by simpa using he)];exact⟨_,_,rfl,by simp[Small]⟩
theorem esame_self (a:Teval_Answer) (h:Small a.f0):f_eval_Same.f a a=some true:=by
 unfold f_eval_Same.f
 rw[same_self a.f0 (by have:=h.1;omega) (by have:=h.2;omega)]
 simp[sb]
end Go.Proofs.Ytfkppdcfgmgllaa.PvGD3
set_option linter.unusedVariables false
set_option linter.unusedSimpArgs false
set_option maxRecDepth 10000
namespace Go.Proofs.Ytfkppdcfgmgllaa.PvGD3
open Go Go.Pv Go.Pv.GS
noncomputable def pt (c0 c1 c2:Int) (c3:Trank_Place) (l:List TSample) (S A:Int):Teval_Point:=match f_eval_Do.f (⟨c0,c1,c2,c3,S,A⟩:Teval_Ask) l with
 | some p=>⟨A,p.1,p.2⟩
 | none=>⟨A,ans0,0⟩
noncomputable def pts (c0 c1 c2:Int) (c3:Trank_Place) (l:List TSample) (k:Int):Int→Int→Nat→List Teval_Point
 | _,_,0=>[]
 | S,A,n+1=>pt c0 c1 c2 c3 l S A::pts c0 c1 c2 c3 l k (S+k) (A+k) n
theorem pts_len (c0 c1 c2:Int) (c3:Trank_Place) (l:List TSample) (k:Int):∀ (n:Nat) (S A:Int),(pts c0 c1 c2 c3 l k S A n).length=n
 | 0,_,_=>rfl
 | n+1,S,A=>by simp[pts,pts_len c0 c1 c2 c3 l k n]
theorem pts_app (c0 c1 c2:Int) (c3:Trank_Place) (l:List TSample) (k:Int) (b:Nat):∀ (a:Nat) (S A:Int),pts c0 c1 c2 c3 l k S A (a+b)=pts c0 c1 c2 c3 l k S A a++pts c0 c1 c2 c3 l k (S+k*a) (A+k*a) b
 | 0,S,A=>by simp[pts]
 | a+1,S,A=>by
  have:=pts_app c0 c1 c2 c3 l k b a (S+k) (A+k)
  rw[show a+1+b=(a+b)+1 by omega,pts,pts,this,List.cons_append]
  have e:k*((a+1:Nat):Int)=k+k*a:=by rw[Int.natCast_add,Int.mul_add];simp;omega
  rw[e,Int.add_assoc,Int.add_assoc]
theorem pts_small (c0 c1 c2:Int) (c3:Trank_Place) (l:List TSample) (k:Int) (h:Lit l) (hp:U64 c1) (ho:U64 c2):∀ (n:Nat) (S A:Int),∀ p∈pts c0 c1 c2 c3 l k S A n,Small p.f1.f0
 | 0,_,_=>by simp[pts]
 | n+1,S,A=>by
  intro p hp'
  rw[pts] at hp'
  rcases List.mem_cons.1 hp' with rfl | hp'
  ·obtain⟨a,e,E,hs⟩:=do_tot (⟨c0,c1,c2,c3,S,A⟩:Teval_Ask) l h hp ho
   rw[pt,E];exact hs
  ·exact pts_small c0 c1 c2 c3 l k h hp ho n _ _ p hp'
theorem range_l0 (q:Teval_Ask) (l:List TSample) (to k:Int) (h:Lit l) (hp:U64 q.f1) (ho:U64 q.f2) (hk:1≤k∧k≤20) (ht:to≤100000):∀ (m:Nat) (S A:Int) (o:List Teval_Point),(0<m→A+k*((m:Int)-1)≤to∧0≤A ∧ -100000≤S∧S≤A)→o.length+m≤1000000 →
  f_eval_Range.l0 q l to k S A o ((m:Int)-1)=some (o++pts q.f0 q.f1 q.f2 q.f3 l k S A m):=by
 intro m
 induction m with
 | zero =>
  intro S A o _ _
  have hb:((if(decide (A≤to))=true then(some (decide ((((0:Nat):Int)-1)≥(0:Int)))) else(some false)):Option (Bool))=some false:=by
   by_cases c:A≤to<;>simp[c]
  rw[f_eval_Range.l0,hb,sb,if_neg (by simp),pts,List.append_nil]
 | succ m ih =>
  intro S A o hm hl
  obtain⟨h1,h2,h3,h4⟩:=hm (by omega)
  have hmn:0≤k*(m:Int):=Int.mul_nonneg (by omega) (by omega)
  have e1:((m+1:Nat):Int)-1=m:=by omega
  rw[e1] at h1 ⊢
  have hb:((if(decide (A≤to))=true then(some (decide ((m:Int)≥(0:Int)))) else(some false)):Option (Bool))=some true:=by
   rw[if_pos (by simp;omega)];simp
  obtain⟨a,e,E,hs⟩:=do_tot (⟨q.f0,q.f1,q.f2,q.f3,S,A⟩:Teval_Ask) l h hp ho
  rw[f_eval_Range.l0,hb,sb,if_pos rfl,E,sb,chkB (by simp;omega),wrap64 (n:=S+k) (by omega) (by omega),wrap64 (n:=A+k) (by omega) (by omega),wrap64 (n:=(m:Int)-1) (by omega) (by omega)]
  rw[ih (S+k) (A+k) _ (fun h0=>⟨by rw[Int.mul_sub];omega,by omega,by omega,by omega⟩) (by simp;omega),pts,pt,E]
  simp
theorem tdiv_k (k m:Int) (h:k≠0):Int.tdiv (k*m) k=m:=Int.mul_tdiv_cancel_left m h
theorem range_eq (c0 c1 c2:Int) (c3:Trank_Place) (S A:Int) (l:List TSample) (to k:Int) (N:Nat) (h:Lit l) (hp:U64 c1) (ho:U64 c2) (hk:1≤k∧k≤20) (ht:to≤100000) (hN:N≤100) (hto:to=A+k*((N:Int)-1)) (hA:0≤A∧A≤100000) (hS : -1000≤S∧S≤A) :
  f_eval_Range.f (⟨c0,c1,c2,c3,S,A⟩:Teval_Ask) l to k=some (pts c0 c1 c2 c3 l k S A N,0):=by
 have hl:=range_l0 (⟨c0,c1,c2,c3,S,A⟩:Teval_Ask) l to k h hp ho hk ht N S A [] (fun h0=>⟨by omega,hA.1,by omega,hS.2⟩) (by simp;omega)
 have hb1:k*((N:Int)-1)≤20*100:=by
  by_cases c:N=0
  ·subst c;rw[show((0:Nat):Int)-1 = -1 from rfl];omega
  ·exact Int.mul_le_mul hk.2 (by omega) (by omega) (by omega)
 have hb2 : -20≤k*((N:Int)-1):=by
  by_cases c:N=0
  ·subst c;rw[show((0:Nat):Int)-1 = -1 from rfl];omega
  ·have:=Int.mul_nonneg (a:=k) (b:=(N:Int)-1) (by omega) (by omega);omega
 have hd:Int.tdiv (IntKind.i64.wrap (to-A)) k=(N:Int)-1:=by
  rw[show to-A=k*((N:Int)-1) by omega,wrap64 (by omega) (by omega),tdiv_k _ _ (by omega)]
 unfold f_eval_Range.f
 dsimp only at hl ⊢
 rw[if_neg (by simp;omega),if_neg (by simp;omega),if_neg (by simp;omega),if_neg (by simp;omega),decide_eq_false (show ¬ k<1 by omega),sb,if_neg (by simp),hd,wrap64 (n:=(N:Int)-1) (by omega) (by omega)]
 have hb:((if(decide (to≥A))=true then((chk (k≠0))>>=fun _=>some (decide ((N:Int)-1≥(4096:Int)))) else(some false)):Option (Bool))=some false:=by
  by_cases c:to≥A
  ·rw[if_pos (by simpa using c),chkB (by omega)];simp;omega
  ·rw[if_neg (by simpa using c)]
 rw[hb,sb,if_neg (by simp),chkB (by omega),hl,sb,List.nil_append]
theorem steps_l0 (l:List Teval_Point) (p q r:List Teval_Point×Int) (hp:p.1=l) (hq:q.1++r.1=l) (hl:l.length<1000) (hs:∀ x∈l,Small x.f1.f0):∀ (suf pre:List Teval_Point) (i:Int),l=pre++suf→i=(pre.length:Int)→f_pluviallaw19_EvalSteps.l0 p q r i=some (.inr ()):=by
 intro suf
 induction suf with
 | nil=>intro pre i h1 hi;rw[List.append_nil] at h1;subst h1;rw[f_pluviallaw19_EvalSteps.l0,hq,if_neg (by simp[hi])]
 | cons x suf ih =>
  intro pre i h1 hi
  have hlen:(l.length:Int)=pre.length+(suf.length+1):=by rw[h1];simp
  rw[f_pluviallaw19_EvalSteps.l0,hq,hp,if_pos (by simp;omega),at_mid h1 hi,sb,sb,if_neg (by simp),if_neg (by simp),esame_self x.f1 (hs x (by rw[h1];simp)),sb,sb,if_neg (by simp),wrap64 (n:=i+1) (by omega) (by omega)]
  exact ih (pre++[x]) (i+1) (by simp[h1]) (by simp;omega)
theorem evalSteps_R (a:Tpluvialref19_Ask) (l:List TSample) (u v w:Int) (ha:Rpluvialref19_Ask a) (hL:l.length≤140737488351232∧∀ s∈l,RSample s) (hu0:0≤u∧u<256) (hv0:0≤v∧v<256) (hw0:0≤w∧w<256):f_pluviallaw19_EvalSteps.f a l u v w=some true:=by
 obtain⟨hl0,hR⟩:=hL
 have hl:(l.length:Int)≤140737488351232:=by omega
 unfold f_pluviallaw19_EvalSteps.f
 obtain⟨g,eg,hg⟩:=light_list l hl hR
 rw[eg,sb,awake19]
 cases g with
 | false=>rw[if_pos (show(!false)=true from rfl),sb]
 | true =>
  obtain⟨hu,h400⟩:=hg rfl
  have lit:Lit l:=⟨fun s hs=>⟨(hu.ok s hs).1,fits_of (hR s hs).r1⟩,h400⟩
  rw[if_neg (by simp)]
  have bA:0≤(if(if(1000:Int)<a.f6 then(1000:Int) else a.f6)>(0:Int) then(if(1000:Int)<a.f6 then(1000:Int) else a.f6) else(0:Int))∧(if(if(1000:Int)<a.f6 then(1000:Int) else a.f6)>(0:Int) then(if(1000:Int)<a.f6 then(1000:Int) else a.f6) else(0:Int))≤1000:=by
   constructor<;>(repeat' split)<;>omega
  generalize (if(if(1000:Int)<a.f6 then(1000:Int) else a.f6)>(0:Int) then(if(1000:Int)<a.f6 then(1000:Int) else a.f6) else(0:Int))=A at bA ⊢
  have bS : -1000≤(if(if A<a.f5 then A else a.f5)>(-1000) then(if A<a.f5 then A else a.f5) else(-1000))∧(if(if A<a.f5 then A else a.f5)>(-1000) then(if A<a.f5 then A else a.f5) else(-1000))≤A:=by
   constructor<;>(repeat' split)<;>omega
  generalize (if(if A<a.f5 then A else a.f5)>(-1000) then(if A<a.f5 then A else a.f5) else(-1000))=S at bS ⊢
  rw[Int.tmod_eq_emod_of_nonneg hu0.1,Int.tmod_eq_emod_of_nonneg hv0.1,Int.tmod_eq_emod_of_nonneg hw0.1]
  have n0:=Int.emod_nonneg u (show(20:Int)≠0 by decide)
  have n1:=Int.emod_lt_of_pos u (show(0:Int)<20 by decide)
  have m0:=Int.emod_nonneg v (show(20:Int)≠0 by decide)
  have m1:=Int.emod_lt_of_pos v (show(0:Int)<20 by decide)
  have k0:=Int.emod_nonneg w (show(20:Int)≠0 by decide)
  have k1:=Int.emod_lt_of_pos w (show(0:Int)<20 by decide)
  obtain⟨n,hn⟩:∃ n:Nat,u % 20=(n:Int):=⟨(u % 20).toNat,by omega⟩
  obtain⟨m,hm⟩:∃ n:Nat,v % 20=(n:Int):=⟨(v % 20).toNat,by omega⟩
  rw[hn] at n0 n1 ⊢
  rw[hm] at m0 m1 ⊢
  generalize w % 20=k' at k0 k1 ⊢
  rw[wrap64 (n:=k') (by omega) (by omega),wrap64 (n:=k'+1) (by omega) (by omega),wrap64 (n:=(n:Int)) (by omega) (by omega),wrap64 (n:=(m:Int)) (by omega) (by omega)]
  obtain⟨k,hk⟩:∃ k,k'+1=k:=⟨_,rfl⟩
  rw[hk]
  have bn0:0≤k*(n:Int):=Int.mul_nonneg (by omega) (by omega)
  have bn1:k*(n:Int)≤20*19:=Int.mul_le_mul (by omega) (by omega) (by omega) (by omega)
  have bm0:0≤k*(m:Int):=Int.mul_nonneg (by omega) (by omega)
  have bm1:k*(m:Int)≤20*19:=Int.mul_le_mul (by omega) (by omega) (by omega) (by omega)
  rw[wrap64 (n:=k*(n:Int)) (by omega) (by omega),wrap64 (n:=k*(m:Int)) (by omega) (by omega),wrap64 (n:=A+k*(n:Int)) (by omega) (by omega),wrap64 (n:=A+k*(n:Int)+k*(m:Int)) (by omega) (by omega)]
  rw[show f_pluviallaw19_To.f (⟨a.f0,a.f1,a.f2,a.f3,a.f4,S,A⟩:Tpluvialref19_Ask)=some (⟨a.f0,a.f1,a.f2,(⟨a.f3,a.f4⟩:Trank_Place),S,A⟩:Teval_Ask) from rfl,sb]
  dsimp only
  have E1:=range_eq a.f0 a.f1 a.f2 (⟨a.f3,a.f4⟩:Trank_Place) S A l (A+k*(n:Int)+k*(m:Int)) k ((n+1)+m) lit ha.r1 ha.r2 (by omega) (by omega) (by omega) (by rw[show(((n+1+m:Nat):Int)-1)=(n:Int)+m by omega,Int.mul_add]<;>omega) (by omega) (by omega)
  have E2:=range_eq a.f0 a.f1 a.f2 (⟨a.f3,a.f4⟩:Trank_Place) S A l (A+k*(n:Int)) k (n+1) lit ha.r1 ha.r2 (by omega) (by omega) (by omega) (by rw[show(((n+1:Nat):Int)-1)=(n:Int) by omega]) (by omega) (by omega)
  have E3:=range_eq a.f0 a.f1 a.f2 (⟨a.f3,a.f4⟩:Trank_Place) (S+k*(n:Int)+k) (A+k*(n:Int)+k) l (A+k*(n:Int)+k*(m:Int)) k m lit ha.r1 ha.r2 (by omega) (by omega) (by omega) (by rw[Int.mul_sub];omega) (by omega) (by omega)
  rw[wrap64 (n:=S+k*(n:Int)) (by omega) (by omega),wrap64 (n:=S+k*(n:Int)+k) (by omega) (by omega),wrap64 (n:=A+k*(n:Int)) (by omega) (by omega),wrap64 (n:=A+k*(n:Int)+k) (by omega) (by omega),E1,sb,E2,sb,E3,sb]
  have hap:=pts_app a.f0 a.f1 a.f2 (⟨a.f3,a.f4⟩:Trank_Place) l k m (n+1) S A
  have hkn:k*((n+1:Nat):Int)=k*(n:Int)+k:=by rw[Int.natCast_add,Int.mul_add];simp
  rw[hkn,← Int.add_assoc,← Int.add_assoc] at hap
  dsimp only
  rw[if_neg (by simp),if_neg (by simp),if_neg (by simp),pts_len,pts_len,pts_len,wrap64 (by omega) (by omega),wrap64 (by omega) (by omega),if_neg (by simp<;>omega),sb,if_neg (by simp),chkB (by omega),
   steps_l0 (pts a.f0 a.f1 a.f2 (⟨a.f3,a.f4⟩:Trank_Place) l k S A (n+1+m)) _ _ _ rfl hap.symm (by rw[pts_len];omega) (fun x hx=>pts_small a.f0 a.f1 a.f2 (⟨a.f3,a.f4⟩:Trank_Place) l k lit ha.r1 ha.r2 _ S A x hx) (pts a.f0 a.f1 a.f2 (⟨a.f3,a.f4⟩:Trank_Place) l k S A (n+1+m)) [] 0 rfl rfl,sb]
  rfl
end Go.Proofs.Ytfkppdcfgmgllaa.PvGD3
