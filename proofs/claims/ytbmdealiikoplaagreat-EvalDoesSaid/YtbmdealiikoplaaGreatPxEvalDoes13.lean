import Derived.Test.YtbmdealiikoplaaGreatPxEvalDoes12
set_option linter.unusedVariables false
set_option linter.unusedSimpArgs false
namespace Go.Proofs.YtbmdealiikoplaaGreat.PvGJ
open Go Go.Pv Go.Pv.GS Go.IntKind
open Classical
def wsum (l:List TBucket) (w:Int→Int):Int:=(l.map (fun b=>b.f1*w b.f0)).sum
theorem wsum_cons (b:TBucket) (l:List TBucket) (w:Int→Int):wsum (b::l) w=b.f1*w b.f0+wsum l w:=by simp[wsum]
theorem wsum_append (a b:List TBucket) (w:Int→Int):wsum (a++b) w=wsum a w+wsum b w:=by simp[wsum]
theorem wsum_split (l:List TBucket) (i:Int) (w:Int→Int):wsum l w=tot l i*w i+wsum (l.filter (fun b=>decide (b.f0≠i))) w:=by
 induction l with
 | nil=>simp[wsum,tot]
 | cons b l ih =>
  rw[wsum_cons,ih,tot]
  by_cases h:b.f0=i
  ·subst h;simp[Int.add_mul];omega
  ·rw[if_neg h,List.filter_cons_of_pos (by simpa using h),wsum_cons,Int.zero_add];omega
theorem tot_filter (l:List TBucket) (p:Int→Bool) (i:Int):tot (l.filter (fun b=>p b.f0)) i=if p i=true then tot l i else 0:=by
 induction l with
 | nil=>simp[tot]
 | cons b l ih =>
  by_cases h:p b.f0=true
  ·rw[List.filter_cons_of_pos (by simpa using h),tot,ih,tot]
   by_cases e:b.f0=i
   ·subst e;simp[h]
   ·simp[e]
  ·rw[List.filter_cons_of_neg (by simpa using h),ih,tot]
   by_cases e:b.f0=i
   ·subst e;simp[h]
   ·simp[e]
theorem wsum_zero:∀ (n:Nat) (l:List TBucket),l.length≤n→(∀ i,tot l i=0)→∀ w,wsum l w=0:=by
 intro n
 induction n with
 | zero =>
  intro l hn _ w
  obtain rfl:l=[]:=List.length_eq_zero_iff.1 (by omega)
  rfl
 | succ n ih =>
  intro l hn h w
  cases l with
  | nil=>rfl
  | cons b l =>
   rw[wsum_split _ b.f0,h,Int.zero_mul,Int.zero_add]
   refine ih _ ?_ (fun i => ?_) w
   ·rw[List.filter_cons_of_neg (by simp)]
    have:=List.length_filter_le (fun b':TBucket=>decide (b'.f0≠b.f0)) l
    simp only[List.length_cons] at hn;omega
   ·have:=tot_filter (b::l) (fun j=>decide (j≠b.f0)) i
    rw[this,h];simp
def negl (l:List TBucket):List TBucket:=l.map (fun b=>⟨b.f0,-b.f1⟩)
theorem tot_negl (l:List TBucket) (i:Int):tot (negl l) i = - tot l i:=by
 induction l with
 | nil=>rfl
 | cons b l ih=>simp only[negl,List.map_cons,tot] at *;rw[ih];split<;>omega
theorem wsum_negl (l:List TBucket) (w:Int→Int):wsum (negl l) w = - wsum l w:=by
 induction l with
 | nil=>rfl
 | cons b l ih=>rw[negl,List.map_cons,wsum_cons,wsum_cons];rw[negl] at ih;rw[ih];simp[Int.neg_mul];omega
theorem wsum_congr {l l':List TBucket} (h:∀ i,tot l i=tot l' i) (w:Int→Int):wsum l w=wsum l' w:=by
 have:=wsum_zero _ (l++negl l') (Nat.le_refl _) (fun i=>by rw[tot_append,tot_negl,h];omega) w
 rw[wsum_append,wsum_negl] at this;omega
theorem cnt_wsum (l:List TBucket):cnt l=wsum l (fun _=>1):=by simp[cnt,wsum]
theorem cnt_congr {l l':List TBucket} (h:∀ i,tot l i=tot l' i):cnt l=cnt l':=by rw[cnt_wsum,cnt_wsum,wsum_congr h]
theorem tot_le_cnt {l:List TBucket} (h:Nn l) (i:Int):tot l i≤cnt l:=by
 induction l with
 | nil=>simp[tot,cnt]
 | cons b l ih =>
  have:=h b (by simp)
  have h2:Nn l:=fun y hy=>h y (by simp[hy])
  have:=ih h2
  have:=cnt_nonneg h2
  rw[tot,cnt_cons];split<;>omega
theorem cnt_filter (l:List TBucket) (p:TBucket→Bool):cnt (l.filter p)+cnt (l.filter (fun b => !p b))=cnt l:=by
 induction l with
 | nil=>rfl
 | cons b l ih =>
  cases h:p b with
  | true=>rw[List.filter_cons_of_pos h,List.filter_cons_of_neg (by simp[h]),cnt_cons,cnt_cons];omega
  | false=>rw[List.filter_cons_of_neg (by simp[h]),List.filter_cons_of_pos (by simp[h]),cnt_cons,cnt_cons];omega
structure Bs (s z:Int) (l:List TBucket):Prop where
 len:l.length≤5000
 ok:∀ b∈l,InS s b.f0∧0≤b.f1∧z≤(b.f0-1)*stp s
theorem Bs.nn {s z:Int} {l:List TBucket} (h:Bs s z l):Nn l:=fun b hb=>(h.ok b hb).2.1
theorem le_cnt {l:List TBucket} (h:Nn l) {b:TBucket} (hb:b∈l):b.f1≤cnt l:=Int.le_trans (tot_mem h hb) (tot_le_cnt h _)
theorem tidy_ok {s z:Int} {l:List TBucket} (h:Bs s z l) (ht:cnt l<18446744073709551616) :
  ∃ o,f_hist_tidy.f l=some (o,0)∧Canon o∧(∀ i,tot o i=tot l i)∧(∀ b∈o,BOk s z b)∧(∀ b∈o,U64 b.f1)∧o.length≤l.length∧cnt o=cnt l:=by
 have hl:=h.len
 rcases tidy_spec l (by omega) (fun b hb=>⟨h.nn b hb,by have:=le_cnt h.nn hb;omega⟩) with ⟨o,e,h1,h2,h3,h4,h5⟩ | ⟨e,i,h1⟩
 ·refine⟨o,e,h1,h2,fun b hb => ?_,h3,h5,cnt_congr h2⟩
  obtain⟨p,hp,e⟩:=h4 b hb
  have:=h.ok p hp
  exact⟨e ▸ this.1,h1.pos b hb,e ▸ this.2.2⟩
 ·have:=tot_le_cnt h.nn i;omega
theorem inS_i64 {s i:Int} (h:InS s i):I64 i:=by have:=inS_small h;constructor<;>omega
theorem make_valid (g:THist) (p n:List TBucket) (hk:g.f0=0∨g.f0=1) (hs:RightS g.f1) (hz:g.f2 = -524288∨(-262144<g.f2∧g.f2≤262144)) (h3:0≤g.f3) (h5:I64 g.f5)
  (hp:Bs g.f1 g.f2 p) (hn:Bs g.f1 g.f2 n) (ht:cnt p+cnt n+g.f3<18446744073709551616) (hl:∀ o,Canon o→(((∀ i,tot o i=tot p i)∧o.length≤p.length)∨((∀ i,tot o i=tot n i)∧o.length≤n.length))→o.length≤512) :
  ∃ r,f_hist_Make.f g p n=some (r,0)∧Valid r∧Fits r∧r.f0=g.f0∧r.f1=g.f1∧r.f2=g.f2∧r.f3=g.f3∧r.f5=g.f5∧(∀ i,tot r.f6 i=tot p i)∧(∀ i,tot r.f7 i=tot n i)∧r.f4=cnt p+cnt n+g.f3:=by
 have np:=cnt_nonneg hp.nn
 have nn:=cnt_nonneg hn.nn
 obtain⟨o,e1,c1,t1,b1,u1,l1,q1⟩:=tidy_ok hp (by omega)
 obtain⟨o2,e2,c2,t2,b2,u2,l2,q2⟩:=tidy_ok hn (by omega)
 have hlp:=hp.len
 have hln:=hn.len
 have htot:=total3 o o2 g.f3 (by omega) (by omega) u1 u2 ⟨h3,by omega⟩
 rw[q1,q2,if_pos ht] at htot
 have hf:Fits (⟨g.f0,g.f1,g.f2,g.f3,cnt p+cnt n+g.f3,g.f5,o,o2⟩:THist) :=
  ⟨by rcases hk with h | h<;>rw[h]<;>constructor<;>omega,by have:=hs.1;have:=hs.2;constructor<;>simp<;>omega,by rcases hz with h | h<;>constructor<;>simp<;>omega,⟨h3,by simp;omega⟩,⟨by simp;omega,ht⟩,h5,
   fun b hb=>⟨inS_i64 (b1 b hb).ins,u1 b hb⟩,fun b hb=>⟨inS_i64 (b2 b hb).ins,u2 b hb⟩⟩
 have hv:Valid (⟨g.f0,g.f1,g.f2,g.f3,cnt p+cnt n+g.f3,g.f5,o,o2⟩:THist) :=
  ⟨hk,hs,hz,⟨hl o c1 (.inl ⟨t1,l1⟩),b1,c1.up⟩,⟨hl o2 c2 (.inr ⟨t2,l2⟩),b2,c2.up⟩,by simp only[q1,q2];exact ht,by simp only[q1,q2]⟩
 refine⟨_,?_,hv,hf,rfl,rfl,rfl,rfl,rfl,t1,t2,rfl⟩
 unfold f_hist_Make.f
 rw[e1,e2,sb,sb,if_neg (by simp),htot,sb,if_neg (by simp),check_T _ hf hv,sb,if_neg (by simp)]
def Strad (s a:Int) (l:List TBucket):Prop:=∃ b∈l,(b.f0-1)*stp s<a∧a<b.f0*stp s
def cg (s a:Int):Int:=-((-a) / stp s)*stp s
theorem cg_eq {s a i:Int} (h1:(i-1)*stp s<a) (h2:a≤i*stp s):cg s a=i*stp s:=by
 have hp:=stp_pos s
 unfold cg
 generalize stp s=st at *
 have : -((-a) / st)=i:=by
  have e1:=Int.ediv_mul_le (-a) (show st≠0 by omega)
  have e2:=Int.lt_ediv_add_one_mul_self (-a) hp
  generalize (-a) / st=q at *
  rw[Int.add_mul] at e2
  rw[Int.sub_mul] at h1
  have a1 : -q*st<(i+1)*st:=by rw[Int.neg_mul,Int.add_mul];omega
  have a2:(i-1)*st < -q*st:=by rw[Int.neg_mul,Int.sub_mul];omega
  have b1:=Int.lt_of_mul_lt_mul_right a1 (by omega)
  have b2:=Int.lt_of_mul_lt_mul_right a2 (by omega)
  omega
 rw[this]
theorem edge_l0 (h:THist) (l:List TBucket) (a:Int) (hs:RightS h.f1) (hl:l.length<1000000000) (hi:∀ b∈l,InS h.f1 b.f0):∀ (suf pre:List TBucket) (i:Int),l=pre++suf→i=(pre.length:Int) →
  f_meld_edge.l0 h l a i=some (if Strad h.f1 a suf then .inl (cg h.f1 a) else .inr ()):=by
 intro suf
 induction suf with
 | nil =>
  intro pre i h1 hi0
  subst h1
  rw[f_meld_edge.l0,if_neg (by simp[hi0]),if_neg (by simp[Strad])]
 | cons x suf ih =>
  intro pre i h1 hi0
  have hx:=hi x (by rw[h1];simp)
  have hlen:(l.length:Int)=pre.length+(suf.length+1):=by rw[h1];simp
  rw[f_meld_edge.l0,if_pos (by simp;omega),at_mid h1 hi0,sb,low_T hs hx,sb,units_in hs hx,sb,ifand,sb,sb]
  by_cases hc:(x.f0-1)*stp h.f1<a∧a<x.f0*stp h.f1
  ·rw[if_pos (by simpa using hc),if_pos ⟨x,by simp,hc⟩,cg_eq hc.1 (by omega)]
  ·rw[if_neg (by simpa using hc),wrap64 (by omega) (by omega),ih (pre++[x]) (i+1) (by simp[h1]) (by simp;omega)]
   have:Strad h.f1 a (x::suf)↔Strad h.f1 a suf:=by
    constructor
    ·rintro⟨b,hb,h⟩
     rcases List.mem_cons.1 hb with rfl | hb
     ·exact absurd h hc
     ·exact⟨b,hb,h⟩
    ·rintro⟨b,hb,h⟩;exact⟨b,by simp[hb],h⟩
   by_cases hst:Strad h.f1 a suf
   ·rw[if_pos hst,if_pos (this.2 hst)]
   ·rw[if_neg hst,if_neg (fun q=>hst (this.1 q))]
theorem edge_eq (h:THist) (l:List TBucket) (a:Int) (hs:RightS h.f1) (hl:l.length<1000000000) (hi:∀ b∈l,InS h.f1 b.f0) :
  f_meld_edge.f h l a=some (if Strad h.f1 a l then cg h.f1 a else a):=by
 unfold f_meld_edge.f
 rw[edge_l0 h l a hs hl hi l [] 0 rfl rfl,sb]
 by_cases hst:Strad h.f1 a l
 ·rw[if_pos hst,if_pos hst]
 ·rw[if_neg hst,if_neg hst]
abbrev above (s a:Int) (i:Int):Bool:=decide (a<i*stp s)
abbrev keepL (s a:Int) (l:List TBucket):List TBucket:=l.filter (fun b=>above s a b.f0)
abbrev dropL (s a:Int) (l:List TBucket):List TBucket:=l.filter (fun b => !above s a b.f0)
theorem keep_l0 (l:List TBucket) (c0 s c2 c4 c5:Int) (c6 c7:List TBucket) (a:Int) (hs:RightS s) (hl:l.length<1000000) (hi:∀ b∈l,InS s b.f0) (hU:∀ b∈l,0≤b.f1):∀ (suf pre:List TBucket) (z:Int) (o:List TBucket) (i:Int),l=pre++suf→i=(pre.length:Int)→0≤z→z+cnt suf<18446744073709551616→o.length≤pre.length →
  f_meld_swallow_1_8ce.l0 l c0 s c2 c4 c5 c6 c7 a z o i=some (o++keepL s a suf,z+cnt (dropL s a suf)):=by
 intro suf
 induction suf with
 | nil =>
  intro pre z o i h1 hi0 _ _ _
  subst h1
  rw[f_meld_swallow_1_8ce.l0,if_neg (by simp[hi0])]
  simp[cnt]
 | cons x suf ih =>
  intro pre z o i h1 hi0 h0 hz ho
  have hx:=hi x (by rw[h1];simp)
  have hx1:=hU x (by rw[h1];simp)
  have hn:0≤cnt suf:=cnt_nonneg (fun b hb=>hU b (by rw[h1];simp[hb]))
  have hlen:(l.length:Int)=pre.length+(suf.length+1):=by rw[h1];simp
  rw[cnt_cons] at hz
  rw[f_meld_swallow_1_8ce.l0,if_pos (by simp;omega),at_mid h1 hi0,sb,units_in hs hx,sb,wrap64 (by omega) (by omega),num_add2 (a:=z) (b:=x.f1) ⟨h0,by omega⟩ ⟨hx1,by omega⟩]
  by_cases hc:a<x.f0*stp s
  ·rw[if_pos (by simpa using hc),chkB (by simp;omega),sb]
   simp only[]
   rw[ih (pre++[x]) z (o++[x]) (i+1) (by simp[h1]) (by simp;omega) h0 (by omega) (by simp;omega)]
   simp[hc]
  ·rw[if_neg (by simpa using hc),if_pos (by omega),sb,sb]
   simp only[]
   rw[ih (pre++[x]) (z+x.f1) o (i+1) (by simp[h1]) (by simp;omega) (by omega) (by omega) (by simp;omega)]
   rw[show keepL s a (x::suf)=keepL s a suf from List.filter_cons_of_neg (by simpa using hc),show dropL s a (x::suf)=x::dropL s a suf from List.filter_cons_of_pos (by simpa using hc),cnt_cons,Int.add_assoc]
theorem keep_eq (l:List TBucket) (c0 s c2 z c4 c5:Int) (c6 c7:List TBucket) (a:Int) (hs:RightS s) (hl:l.length<1000000) (hi:∀ b∈l,InS s b.f0) (hU:∀ b∈l,0≤b.f1) (h0:0≤z) (hz:z+cnt l<18446744073709551616) :
  f_meld_swallow_1_8ce.f l c0 s c2 z c4 c5 c6 c7 a=some (keepL s a l,z+cnt (dropL s a l)):=by
 unfold f_meld_swallow_1_8ce.f
 rw[keep_l0 l c0 s c2 c4 c5 c6 c7 a hs hl hi hU l [] z [] 0 rfl rfl h0 hz (Nat.le_refl _),sb]
 simp
noncomputable def zAt (s a:Int) (p n:List TBucket):Int:=if Strad s a p∨Strad s a n then cg s a else a
theorem strad_lt {s a:Int} {l:List TBucket} (h:Strad s a l):a<cg s a:=by
 obtain⟨b,hb,h1,h2⟩:=h
 rw[cg_eq h1 (by omega)];exact h2
theorem zAt_max (s a:Int) (p n:List TBucket):(if(if Strad s a n then cg s a else a)>(if Strad s a p then cg s a else a) then(if Strad s a n then cg s a else a) else(if Strad s a p then cg s a else a))=zAt s a p n:=by
 unfold zAt
 by_cases h1:Strad s a p
 ·have:=strad_lt h1
  by_cases h2:Strad s a n<;>simp[h1,h2];omega
 ·by_cases h2:Strad s a n
  ·have:=strad_lt h2
   simp[h1,h2];omega
  ·simp[h1,h2]
theorem zAt_le (s a:Int) (p n:List TBucket):a≤zAt s a p n:=by
 unfold zAt
 split
 ·rename_i h;rcases h with h | h<;>exact Int.le_of_lt (strad_lt h)
 ·exact Int.le_refl _
structure Cs (s:Int) (l:List TBucket):Prop where
 len:l.length≤5000
 ins:∀ b∈l,InS s b.f0
 pos:∀ b∈l,0<b.f1
theorem Cs.nn {s:Int} {l:List TBucket} (h:Cs s l):Nn l:=fun b hb=>Int.le_of_lt (h.pos b hb)
theorem kept_low {s a:Int} {p n l:List TBucket} (hl:l=p∨l=n) {b:TBucket} (hb:b∈l) (h:zAt s a p n<b.f0*stp s):zAt s a p n≤(b.f0-1)*stp s:=by
 have hp:=stp_pos s
 unfold zAt at *
 by_cases hc:Strad s a p∨Strad s a n
 ·rw[if_pos hc] at *
  unfold cg at *
  have h1:=Int.lt_of_mul_lt_mul_right h (Int.le_of_lt hp)
  exact Int.mul_le_mul_of_nonneg_right (by omega) (Int.le_of_lt hp)
 ·rw[if_neg hc] at *
  by_cases h2:(b.f0-1)*stp s<a
  ·rcases hl with rfl | rfl
   ·exact absurd (.inl ⟨b,hb,h2,h⟩) hc
   ·exact absurd (.inr ⟨b,hb,h2,h⟩) hc
  ·omega
theorem zAt_range {s a:Int} {p n:List TBucket} (hp:∀ b∈p,InS s b.f0) (hn:∀ b∈n,InS s b.f0) (ha:a = -524288∨(-262144<a∧a≤262144)):zAt s a p n = -524288∨(-262144<zAt s a p n∧zAt s a p n≤262144):=by
 unfold zAt
 split
 ·rename_i h
  rcases h with ⟨b,hb,h1,h2⟩ | ⟨b,hb,h1,h2⟩
  ·rw[cg_eq h1 (by omega)];exact .inr (hp b hb)
  ·rw[cg_eq h1 (by omega)];exact .inr (hn b hb)
 ·exact ha
structure Swal (h:THist) (p n:List TBucket) (a:Int) (r:THist):Prop where
 valid:Valid r
 fits:Fits r
 kind:r.f0=h.f0
 schema:r.f1=h.f1
 zeroAt:r.f2=zAt h.f1 a p n
 zero:r.f3=h.f3+cnt (dropL h.f1 (zAt h.f1 a p n) p)+cnt (dropL h.f1 (zAt h.f1 a p n) n)
 sum:r.f5=h.f5
 tpos:∀ i,tot r.f6 i=if above h.f1 (zAt h.f1 a p n) i=true then tot p i else 0
 tneg:∀ i,tot r.f7 i=if above h.f1 (zAt h.f1 a p n) i=true then tot n i else 0
 count:r.f4=cnt p+cnt n+h.f3
theorem swallow_eq (h:THist) (p n:List TBucket) (a:Int) (hk:h.f0=0∨h.f0=1) (hs:RightS h.f1) (ha:a = -524288∨(-262144<a∧a≤262144)) (h3:0≤h.f3) (h5:I64 h.f5) (hp:Cs h.f1 p) (hn:Cs h.f1 n) (hpl:p.length≤512) (hnl:n.length≤512)
  (ht:cnt p+cnt n+h.f3<18446744073709551616):∃ r,f_meld_swallow.f h p n a=some (r,0)∧Swal h p n a r:=by
 have c1:=cnt_nonneg hp.nn
 have c2:=cnt_nonneg hn.nn
 have d1:cnt (keepL h.f1 (zAt h.f1 a p n) p)+cnt (dropL h.f1 (zAt h.f1 a p n) p)=cnt p:=cnt_filter p _
 have d2:cnt (keepL h.f1 (zAt h.f1 a p n) n)+cnt (dropL h.f1 (zAt h.f1 a p n) n)=cnt n:=cnt_filter n _
 have e1:=cnt_nonneg (l:=keepL h.f1 (zAt h.f1 a p n) p) (fun b hb=>hp.nn b ((List.mem_filter.1 hb).1))
 have e2:=cnt_nonneg (l:=keepL h.f1 (zAt h.f1 a p n) n) (fun b hb=>hn.nn b ((List.mem_filter.1 hb).1))
 have e3:=cnt_nonneg (l:=dropL h.f1 (zAt h.f1 a p n) p) (fun b hb=>hp.nn b ((List.mem_filter.1 hb).1))
 have e4:=cnt_nonneg (l:=dropL h.f1 (zAt h.f1 a p n) n) (fun b hb=>hn.nn b ((List.mem_filter.1 hb).1))
 have hb:∀ l,(l=p∨l=n)→Cs h.f1 l→Bs h.f1 (zAt h.f1 a p n) (keepL h.f1 (zAt h.f1 a p n) l):=fun l hl hc =>
  ⟨Nat.le_trans (List.length_filter_le _ _) hc.len,fun b hb=>by
   obtain⟨h1,h2⟩:=List.mem_filter.1 hb
   exact⟨hc.ins b h1,Int.le_of_lt (hc.pos b h1),kept_low hl h1 (by simpa using h2)⟩⟩
 obtain⟨r,g1,g2,g3,g4,g5,g6,g7,g8,g9,g10,g11⟩:=make_valid (⟨h.f0,h.f1,zAt h.f1 a p n,h.f3+cnt (dropL h.f1 (zAt h.f1 a p n) p)+cnt (dropL h.f1 (zAt h.f1 a p n) n),h.f4,h.f5,h.f6,h.f7⟩:THist)
  (keepL h.f1 (zAt h.f1 a p n) p) (keepL h.f1 (zAt h.f1 a p n) n) hk hs (zAt_range hp.ins hn.ins ha) (by simp;omega) h5 (hb p (.inl rfl) hp) (hb n (.inr rfl) hn) (by simp only;omega) (fun o ho hto=>by
   rcases hto with hto | hto
   ·exact Nat.le_trans hto.2 (Nat.le_trans (List.length_filter_le _ _) hpl)
   ·exact Nat.le_trans hto.2 (Nat.le_trans (List.length_filter_le _ _) hnl))
 refine⟨r,?_,⟨g2,g3,g4,g5,g6,g7,g8,fun i => ?_,fun i => ?_,?_⟩⟩
 ·have l1:=hp.len
  have l2:=hn.len
  unfold f_meld_swallow.f
  rw[edge_eq h p a hs (by omega) hp.ins,edge_eq h n a hs (by omega) hn.ins,sb,sb,zAt_max]
  rw[keep_eq p _ h.f1 _ h.f3 _ _ _ _ _ hs (by omega) hp.ins hp.nn h3 (by omega),sb,keep_eq n _ h.f1 _ _ _ _ _ _ _ hs (by omega) hn.ins hn.nn (by simp only;omega) (by simp only;omega),sb,g1]
  rfl
 ·rw[g9];exact tot_filter p _ i
 ·rw[g10];exact tot_filter n _ i
 ·rw[g11];simp only;omega
end Go.Proofs.YtbmdealiikoplaaGreat.PvGJ
set_option linter.unusedVariables false
set_option linter.unusedSimpArgs false
namespace Go.Proofs.YtbmdealiikoplaaGreat.PvGJ
open Go Go.Pv Go.Pv.GS Go.IntKind
open Classical
def rat (f t:Int):Int:=2 ^ (f-t).toNat
theorem rat_pos (f t:Int):0<rat f t:=Int.pow_pos (by omega)
theorem stp_rat {f t:Int} (h1:t≤f) (h2:f≤8):stp t=stp f*rat f t:=by
 unfold stp rat
 rw[← Int.pow_add];congr 1;omega
def upI (f t i:Int):Int:=-((-i) / rat f t)
theorem upI_spec (f t i:Int):(upI f t i-1)*rat f t<i∧i≤upI f t i*rat f t:=by
 have hp:=rat_pos f t
 unfold upI
 generalize rat f t=r at *
 have e1:=Int.ediv_mul_le (-i) (show r≠0 by omega)
 have e2:=Int.lt_ediv_add_one_mul_self (-i) hp
 generalize (-i) / r=q at *
 rw[Int.add_mul] at e2
 constructor
 ·rw[Int.sub_mul,Int.neg_mul];omega
 ·rw[Int.neg_mul];omega
theorem upI_in {f t i:Int} (hf:RightS f) (ht:RightS t) (h:t≤f) (hi:InS f i):InS t (upI f t i):=by
 obtain⟨h3,h4⟩:=upI_spec f t i
 have hst:=stp_rat h hf.2
 have hp:=stp_pos f
 have hd:=stp_dvd ht
 have hr:=rat_pos f t
 obtain⟨i1,i2⟩:=hi
 constructor
 ·rw[hst,Int.mul_comm (stp f),← Int.mul_assoc]
  have:=Int.mul_le_mul_of_nonneg_right h4 (Int.le_of_lt hp);omega
 ·
  generalize hQ:262144 / stp t=Q at hd
  have hi3:i*stp f≤Q*rat f t*stp f:=by rw[Int.mul_assoc,Int.mul_comm (rat f t),← hst,hd];exact i2
  have hi4:=Int.le_of_mul_le_mul_right hi3 hp
  have:=Int.lt_of_mul_lt_mul_right (show(upI f t i-1)*rat f t<Q*rat f t by omega) (Int.le_of_lt hr)
  have:=Int.mul_le_mul_of_nonneg_right (show upI f t i≤Q by omega) (Int.le_of_lt (stp_pos t))
  omega
theorem to_eq {f t i:Int} (hf:RightS f) (ht:RightS t) (h:t≤f) (hi:InS f i):f_bound_To.f f t i=some (upI f t i,0):=by
 have hs:=inS_small hi
 have h1:=hf.1
 have h2:=hf.2
 have h3:=ht.1
 have h4:=ht.2
 unfold f_bound_To.f f_num_Up.f
 rw[right_T hf,sb,if_neg (by simp),right_T ht,sb,if_neg (by simp),sb,if_neg (by simp;omega),in_T hf,sb,if_neg (by simp[hi]),chkB (u64_wrap _).1,sb]
 rw[wrap64 (n:=f-t) (by omega) (by omega),wrapU (by omega) (by omega),wrap64 (n:=0-i) (by omega) (by omega)]
 have e:min (f-t).toNat 64=(f-t).toNat:=by omega
 rw[e,Int.fdiv_eq_ediv_of_nonneg _ (Int.le_of_lt (Int.pow_pos (by omega)))]
 have:(0-i) / 2 ^ (f-t).toNat = -upI f t i:=by unfold upI rat;rw[Int.zero_sub];omega
 rw[this]
 have hj:=inS_small (upI_in hf ht h hi)
 rw[wrap64 (by omega) (by omega)]
 congr 2;omega
def downL (f t:Int) (l:List TBucket):List TBucket:=l.map (fun b=>⟨upI f t b.f0,b.f1⟩)
theorem downL_len (f t:Int) (l:List TBucket):(downL f t l).length=l.length:=by simp[downL]
theorem cnt_downL (f t:Int) (l:List TBucket):cnt (downL f t l)=cnt l:=by simp[cnt,downL,Function.comp_def]
theorem down_l0 (l:List TBucket) (f t:Int) (hf:RightS f) (ht:RightS t) (h:t≤f) (hl:l.length<1000000) (hi:∀ b∈l,InS f b.f0):∀ (suf pre o:List TBucket) (i:Int),l=pre++suf→i=(pre.length:Int)→o.length=pre.length →
  f_meld_down.l0 l f t o i=some (o++downL f t suf):=by
 intro suf
 induction suf with
 | nil =>
  intro pre o i h1 hi0 _
  subst h1
  rw[f_meld_down.l0,if_neg (by simp[hi0])]
  simp[downL]
 | cons x suf ih =>
  intro pre o i h1 hi0 ho
  have hx:=hi x (by rw[h1];simp)
  have hlen:(l.length:Int)=pre.length+(suf.length+1):=by rw[h1];simp
  rw[f_meld_down.l0,if_pos (by simp;omega),at_mid h1 hi0,sb,to_eq hf ht h hx,sb,chkB (by simp;omega),wrap64 (by omega) (by omega)]
  rw[ih (pre++[x]) _ (i+1) (by simp[h1]) (by simp;omega) (by simp;omega)]
  simp[downL]
theorem down_eq (l:List TBucket) (f t:Int) (hf:RightS f) (ht:RightS t) (h:t≤f) (hl:l.length<1000000) (hi:∀ b∈l,InS f b.f0):f_meld_down.f l f t=some (downL f t l):=by
 unfold f_meld_down.f
 rw[down_l0 l f t hf ht h hl hi l [] [] 0 rfl rfl rfl];simp
def h0:THist:=⟨0,0,0,0,0,0,[],[]⟩
theorem side_cs {s z:Int} {l:List TBucket} (h:Side s z l):Cs s l:=⟨by have:=h.len;omega,fun b hb=>(h.ok b hb).ins,fun b hb=>(h.ok b hb).pos⟩
theorem cs_down {f t:Int} {l:List TBucket} (hf:RightS f) (ht:RightS t) (h:t≤f) (hc:Cs f l):Cs t (downL f t l) :=
 ⟨by rw[downL_len];exact hc.len,fun b hb=>by
  obtain⟨x,hx,rfl⟩:=List.mem_map.1 hb
  exact upI_in hf ht h (hc.ins x hx),fun b hb=>by
  obtain⟨x,hx,rfl⟩:=List.mem_map.1 hb
  exact hc.pos x hx⟩
structure Cut (a:THist) (s z:Int) (r:THist):Prop where
 valid:Valid r
 fits:Fits r
 kind:r.f0=a.f0
 schema:r.f1=s
 zeroAt:r.f2=z
 count:r.f4=a.f4
 sum:r.f5=a.f5
 tpos:∀ i,tot r.f6 i=if above s z i=true then tot (downL a.f1 s a.f6) i else 0
 tneg:∀ i,tot r.f7 i=if above s z i=true then tot (downL a.f1 s a.f7) i else 0
theorem hist_ext {a b:THist} (e0:a.f0=b.f0) (e1:a.f1=b.f1) (e2:a.f2=b.f2) (e3:a.f3=b.f3) (e4:a.f4=b.f4) (e5:a.f5=b.f5) (e6:a.f6=b.f6) (e7:a.f7=b.f7):a=b:=by
 cases a;cases b;simp_all
theorem Down_eq (a:THist) (s:Int) (hv:Valid a) (hf:Fits a) (hs:RightS s) (hle:s≤a.f1) :
  ∃ r,f_meld_Down.f a s=some (r,0)∧Cut a s (zAt s a.f2 (downL a.f1 s a.f6) (downL a.f1 s a.f7)) r:=by
 have l1:=hv.pos.len
 have l2:=hv.neg.len
 have h1:=hv.count
 have h2:=hv.total
 obtain⟨r,e,h⟩:=swallow_eq (⟨a.f0,s,a.f2,a.f3,a.f4,a.f5,a.f6,a.f7⟩:THist) (downL a.f1 s a.f6) (downL a.f1 s a.f7) a.f2 hv.kind hs hv.zero hf.zero.1 hf.sum (cs_down hv.schema hs hle (side_cs hv.pos)) (cs_down hv.schema hs hle (side_cs hv.neg))
  (by rw[downL_len];exact l1) (by rw[downL_len];exact l2) (by rw[cnt_downL,cnt_downL];exact h2)
 refine⟨r,?_,⟨h.valid,h.fits,h.kind,h.schema,h.zeroAt,by rw[h.count,cnt_downL,cnt_downL];exact h1.symm,h.sum,h.tpos,h.tneg⟩⟩
 unfold f_meld_Down.f
 rw[right_T hs,sb,if_neg (by simp),sb,if_neg (by simp;omega),down_eq a.f6 a.f1 s hv.schema hs hle (by omega) (side_cs hv.pos).ins,down_eq a.f7 a.f1 s hv.schema hs hle (by omega) (side_cs hv.neg).ins,sb,sb,e]
 rfl
theorem Down_bad (a:THist) (s:Int) (h:¬ (RightS s∧s≤a.f1)):f_meld_Down.f a s=some (h0,20):=by
 unfold f_meld_Down.f
 by_cases hs:RightS s
 ·rw[right_T hs,sb,if_neg (by simp),sb,if_pos (by simp;have:¬ s≤a.f1:=fun q=>h ⟨hs,q⟩;omega)];rfl
 ·rw[right_F hs,sb,if_pos (by simp),sb,if_pos rfl];rfl
theorem clone_eq (a:THist) (h1:a.f6.length<1000000000) (h2:a.f7.length<1000000000):f_hist_Clone.f a=some a:=by
 unfold f_hist_Clone.f
 rw[clone_inst _ h1,clone_inst _ h2];rfl
theorem Widen_swal (a:THist) (z:Int) (hv:Valid a) (hf:Fits a) (hz : -262144<z∧z≤262144) (hlt:a.f2<z) :
  ∃ r,f_meld_Widen.f a z=some (r,0)∧Swal a a.f6 a.f7 z r:=by
 obtain⟨r,e,h⟩:=swallow_eq a a.f6 a.f7 z hv.kind hv.schema (.inr hz) hf.zero.1 hf.sum (side_cs hv.pos) (side_cs hv.neg) hv.pos.len hv.neg.len hv.total
 refine⟨r,?_,h⟩
 unfold f_meld_Widen.f
 rw[if_neg (by simp;omega),if_neg (by simp;omega),if_neg (by simp;omega),sb,if_neg (by simp;omega),e];rfl
theorem Widen_same (a:THist) (hv:Valid a):f_meld_Widen.f a a.f2=some (a,0):=by
 have l1:=hv.pos.len
 have l2:=hv.neg.len
 unfold f_meld_Widen.f
 rw[if_neg (by simp),if_pos (by simp),clone_eq a (by omega) (by omega)];rfl
theorem Widen_bad (a:THist) (z:Int) (h:z<a.f2∨(z≠a.f2∧¬ (-262144<z∧z≤262144))):f_meld_Widen.f a z=some (h0,31):=by
 unfold f_meld_Widen.f
 by_cases h1:z<a.f2
 ·rw[if_pos (by simpa using h1)];rfl
 ·rw[if_neg (by simpa using h1)]
  have h2:=h.resolve_left h1
  rw[if_neg (by simpa using h2.1)]
  have:((if(decide (z≤(-262144)))=true then(some true) else(some (decide (z>(262144:Int))))):Option (Bool))=some true:=by
   by_cases h3:z ≤ -262144
   ·rw[if_pos (by simpa using h3)]
   ·rw[if_neg (by simpa using h3)];simp;omega
  rw[this,sb,if_pos rfl];rfl
theorem Cut.widen {a r r':THist} {s z z':Int} (h:Cut a s z r) (hz:z≤z') (hw:Swal r r.f6 r.f7 z' r'):Cut a s (zAt s z' r.f6 r.f7) r':=by
 have hle:=zAt_le s z' r.f6 r.f7
 have hc:=h.valid.count
 have key:∀ i (u v:Int),u=(if above s z i=true then v else 0)→(if above s (zAt s z' r.f6 r.f7) i=true then u else 0)=if above s (zAt s z' r.f6 r.f7) i=true then v else 0:=by
  intro i u v hu
  by_cases h1:zAt s z' r.f6 r.f7<i*stp s
  ·simp only[decide_eq_true_eq]
   rw[if_pos h1,if_pos h1,hu];simp only[decide_eq_true_eq];rw[if_pos (by omega)]
  ·simp only[decide_eq_true_eq];rw[if_neg h1,if_neg h1]
 have hs:=h.schema
 refine⟨hw.valid,hw.fits,hw.kind.trans h.kind,hw.schema.trans hs,?_,?_,hw.sum.trans h.sum,fun i => ?_,fun i => ?_⟩
 ·rw[hw.zeroAt,hs]
 ·rw[hw.count,← h.count,hc]
 ·rw[hw.tpos i,hs];exact key i _ _ (h.tpos i)
 ·rw[hw.tneg i,hs];exact key i _ _ (h.tneg i)
theorem no_strad_cg {s a:Int} {l:List TBucket}:¬ Strad s (cg s a) l:=by
 rintro⟨b,hb,h1,h2⟩
 have hp:=Int.le_of_lt (stp_pos s)
 unfold cg at *
 have:=Int.lt_of_mul_lt_mul_right h1 hp
 have:=Int.lt_of_mul_lt_mul_right h2 hp
 omega
theorem zAt_no {s a:Int} {p n:List TBucket} (h1:¬ Strad s a p) (h2:¬ Strad s a n):zAt s a p n=a:=by
 unfold zAt;rw[if_neg (by rintro(h | h)<;>contradiction)]
theorem zAt_or (s a:Int) (p n:List TBucket):zAt s a p n=a∧¬ Strad s a p∧¬ Strad s a n∨zAt s a p n=cg s a:=by
 unfold zAt
 by_cases h:Strad s a p∨Strad s a n
 ·exact .inr (if_pos h)
 ·exact .inl ⟨if_neg h,fun q=>h (.inl q),fun q=>h (.inr q)⟩
end Go.Proofs.YtbmdealiikoplaaGreat.PvGJ
set_option linter.unusedVariables false
set_option linter.unusedSimpArgs false
namespace Go.Proofs.YtbmdealiikoplaaGreat.PvGJ
open Go Go.Pv Go.Pv.GS Go.IntKind
open Classical
structure Dn (h:THist) (s:Int) (d:THist):Prop where
 valid:Valid d
 fits:Fits d
 schema:d.f1=s
 zeroAt:d.f2 = -524288
 count:d.f4=h.f4
 zero:d.f3=h.f3
 tpos:∀ i,tot d.f6 i=tot (downL h.f1 s h.f6) i
 tneg:∀ i,tot d.f7 i=tot (downL h.f1 s h.f7) i
end Go.Proofs.YtbmdealiikoplaaGreat.PvGJ
set_option linter.unusedVariables false
set_option linter.unusedSimpArgs false
namespace Go.Proofs.YtbmdealiikoplaaGreat.PvGJ
open Go Go.Pv Go.Pv.GS Go.IntKind
open Classical
def ceilD (N of:Int):Int:=if N % of=0 then N / of else N / of+1
theorem ceilD_le {N of k:Int} (h:0<of):ceilD N of≤k↔N≤k*of:=by
 have e:=Int.mul_ediv_add_emod N of
 have m0:=Int.emod_nonneg N (show of≠0 by omega)
 have m1:=Int.emod_lt_of_pos N h
 have key:∀ j:Int,j*of=of*j:=fun j=>Int.mul_comm _ _
 rw[key]
 unfold ceilD
 split
 ·rename_i hz
  constructor
  ·intro hk
   have:=Int.mul_le_mul_of_nonneg_left hk (Int.le_of_lt h)
   omega
  ·intro hk
   exact Int.le_of_mul_le_mul_left (by omega:of*(N / of)≤of*k) h
 ·rename_i hz
  constructor
  ·intro hk
   have:=Int.mul_le_mul_of_nonneg_left hk (Int.le_of_lt h)
   rw[Int.mul_add,Int.mul_one] at this
   omega
  ·intro hk
   have:N / of<k:=Int.lt_of_mul_lt_mul_left (a:=of) (by omega) (Int.le_of_lt h)
   omega
theorem ceilD_nonneg {N of:Int} (h:0<of) (hN:0≤N):0≤ceilD N of:=by
 have:0≤N / of:=Int.ediv_nonneg hN (by omega)
 unfold ceilD;split<;>omega
theorem ceil_eq {N of:Int} (h:0<of) (h2:of<18446744073709551616) (hN:0≤N) (hb:N / 18446744073709551616<of) (hc:ceilD N of<18446744073709551616):f_num_Wide_Ceil.f ⟨N / 18446744073709551616,N % 18446744073709551616⟩ of=some (ceilD N of,0):=by
 unfold f_num_Wide_Ceil.f
 have q0:0≤N / of:=Int.ediv_nonneg hN (by omega)
 have eN:N / 18446744073709551616*18446744073709551616+N % 18446744073709551616=N:=by omega
 rw[if_neg (by simp;omega),sb,if_neg (by simp;omega),div64 h h2 (show 0≤N / 18446744073709551616 by omega) hb ⟨show 0≤N % 18446744073709551616 by omega,show N % 18446744073709551616<18446744073709551616 by omega⟩,sb]
 try dsimp only
 rw[eN]
 unfold ceilD at hc ⊢
 by_cases hz:N % of=0
 ·rw[if_pos (by simpa using hz),if_pos hz]
 ·rw[if_neg (by simpa using hz),if_neg hz]
  rw[if_neg hz] at hc
  rw[num_add2 ⟨q0,by omega⟩ ⟨by decide,by decide⟩,if_pos hc,sb]
def mx1 (n:Int):Int:=if(1:Int)>n then 1 else n
structure Part (h:THist) (part of:Int):Prop where
 ok:f_rank_Quantile.f h part of=f_rank_At.f h (mx1 (ceilD (part*h.f4) of))
 lo:1≤mx1 (ceilD (part*h.f4) of)
 hi:mx1 (ceilD (part*h.f4) of)≤h.f4
theorem quant_part {h:THist} (v:Valid h) (f:Fits h) {part of:Int} (hp:U64 part) (ho:U64 of) (h0:0<of) (hle:part≤of) (hc:0<h.f4):Part h part of:=by
 have f4:=f.count
 have f42:=f4.2
 have hp0:=hp.1
 have ho2:=ho.2
 have hN:0≤part*h.f4:=Int.mul_nonneg hp0 (by omega)
 have hN2:part*h.f4≤h.f4*of:=by rw[Int.mul_comm];exact Int.mul_le_mul_of_nonneg_left hle (by omega)
 have hcl:ceilD (part*h.f4) of≤h.f4:=(ceilD_le h0).2 hN2
 have hc0:=ceilD_nonneg h0 hN
 have hb:part*h.f4 / 18446744073709551616<of:=by
  refine Int.ediv_lt_of_lt_mul (by decide) ?_
  have:h.f4*of<18446744073709551616*of:=Int.mul_lt_mul_of_pos_right f42 h0
  rw[Int.mul_comm of];omega
 refine⟨?_,by unfold mx1;split<;>omega,by unfold mx1;split<;>omega⟩
 unfold f_rank_Quantile.f
 rw[if_neg (by simp;omega),sb,if_neg (by simp;omega),if_neg (by simp;omega),num_mul hp f4,sb,ceil_eq h0 ho2 hN hb (by omega),sb]
 try dsimp only
 rw[if_neg (by simp)]
 show(f_rank_At.f h (mx1 (ceilD (part*h.f4) of))>>=fun t1387=>some (t1387.1,t1387.2))=_
 cases f_rank_At.f h (mx1 (ceilD (part*h.f4) of)) with
 | none=>rfl
 | some x=>rfl
theorem quant_ok {h:THist} (v:Valid h) (f:Fits h) {part of:Int} (hp:U64 part) (ho:U64 of) (h0:0<of) (hle:part≤of) (hc:0<h.f4) :
  ∃ c,pick (cells h) (mx1 (ceilD (part*h.f4) of))=some c∧c∈cells h∧f_rank_Quantile.f h part of=some (c.f0,0):=by
 have P:=quant_part v f hp ho h0 hle hc
 have f42:=f.count.2
 have P1:=P.lo;have P2:=P.hi
 rcases at_cases h v f (mx1 (ceilD (part*h.f4) of)) ⟨by omega,by omega⟩ with ⟨_,_,_,hh⟩ | ⟨_,_,c,pc,mc,ac⟩
 ·exact absurd ⟨P1,P2⟩ hh
 ·exact⟨c,pc,mc,P.ok.trans ac⟩
theorem ref_quant_l0 {h:THist} (v:Valid h) (f:Fits h) {part of:Int} (hp:U64 part) (ho:U64 of) (h0:0<of) (hle:part≤of) {c:Trank_Cell}:∀ (suf pre:List Trank_Cell) (i:Int),cells h=pre++suf→i=(pre.length:Int)→csum pre<mx1 (ceilD (part*h.f4) of)→pick suf (mx1 (ceilD (part*h.f4) of)-csum pre)=some c →
  f_r08_Quantile.l0 of (part*h.f4 / 18446744073709551616,part*h.f4 % 18446744073709551616) ((cells h).map rc) (csum pre) i=some (.inl (rc c,0)):=by
 have hl:=cells_len v
 have hs:=cells_sum v f
 have fc:=f.count
 have fc2:=fc.2
 have hN:0≤part*h.f4:=Int.mul_nonneg hp.1 fc.1
 intro suf
 induction suf with
 | nil=>intro pre i h1 hi hlt hpk;simp[pick] at hpk
 | cons x suf ih =>
  intro pre i h1 hi hlt hpk
  have hlen:((cells h).length:Int)=pre.length+(suf.length+1):=by rw[h1];simp
  have hx:=cells_pos v x (by rw[h1];simp)
  have hpre:=csum_nonneg (l:=pre) (fun c hc=>cells_pos v c (by rw[h1];simp[hc]))
  have hsuf:=csum_nonneg (l:=suf) (fun c hc=>cells_pos v c (by rw[h1];simp[hc]))
  have hsum:csum (cells h)=csum pre+(x.f1+csum suf):=by rw[h1,csum_append,csum_cons]
  have h2:(cells h).map rc=pre.map rc++rc x::suf.map rc:=by rw[h1];simp
  have e:u64.wrap (csum pre+(rc x).f3)=csum pre+x.f1:=wrapU (by show 0≤csum pre+x.f1;omega) (by show csum pre+x.f1<_;omega)
  rw[f_r08_Quantile.l0,if_pos (by simp;omega),at_mid h2 (by simp[hi]),sb,e,ref_mul ho ⟨by omega,by omega⟩,sb]
  try dsimp only
  have hN1:0≤of*(csum pre+x.f1):=Int.mul_nonneg ho.1 (by omega)
  rw[ref_less _ _ _ _ ⟨by omega,by omega⟩ ⟨by omega,by omega⟩,sb]
  have e3:of*(csum pre+x.f1) / 18446744073709551616*18446744073709551616+of*(csum pre+x.f1) % 18446744073709551616=of*(csum pre+x.f1):=by omega
  have e4:part*h.f4 / 18446744073709551616*18446744073709551616+part*h.f4 % 18446744073709551616=part*h.f4:=by omega
  rw[e3,e4]
  have C:=ceilD_le (N:=part*h.f4) (of:=of) (k:=csum pre+x.f1) h0
  rw[Int.mul_comm (csum pre+x.f1)] at C
  unfold pick at hpk
  by_cases q:mx1 (ceilD (part*h.f4) of)-csum pre≤x.f1
  ·rw[if_pos q] at hpk
   obtain rfl:=Option.some.inj hpk
   have:ceilD (part*h.f4) of≤csum pre+x.f1:=by unfold mx1 at q;split at q<;>omega
   have:=C.1 this
   rw[if_pos (by simp;omega)]
  ·rw[if_neg q] at hpk
   have:¬ ceilD (part*h.f4) of≤csum pre+x.f1:=by unfold mx1 at q;split at q<;>omega
   have:=fun t=>this (C.2 t)
   rw[if_neg (by simp;omega),wrap64 (by omega) (by omega)]
   have e5:csum pre+x.f1=csum (pre++[x]):=by rw[csum_append,csum_cons];simp[csum]
   rw[e5]
   have e6:mx1 (ceilD (part*h.f4) of)-csum pre-x.f1=mx1 (ceilD (part*h.f4) of)-csum (pre++[x]):=by omega
   rw[e6] at hpk
   exact ih (pre++[x]) _ (by simp[h1]) (by simp;omega) (by omega) hpk
theorem ref_quant {h:THist} (v:Valid h) (f:Fits h) {part of:Int} (hp:U64 part) (ho:U64 of) (h0:0<of) (hle:part≤of) (hc:0<h.f4) {c:Trank_Cell} (pc:pick (cells h) (mx1 (ceilD (part*h.f4) of))=some c) :
  f_r08_Quantile.f h part of=some (rc c,0):=by
 have P:=quant_part v f hp ho h0 hle hc
 have P1:=P.lo
 have lp:=v.pos.len;have ln:=v.neg.len
 unfold f_r08_Quantile.f
 rw[if_neg (by simp;omega),sb,if_neg (by simp;omega),if_neg (by simp;omega),ref_mul hp f.count,sb,ref_order_eq h (by omega) (by omega),sb]
 rw[show f_r08_Quantile.l0 of (part*h.f4 / 18446744073709551616,part*h.f4 % 18446744073709551616) ((cells h).map rc) 0 0=_ from ref_quant_l0 v f hp ho h0 hle (cells h) [] 0 rfl rfl (by simp[csum];omega) (by simpa[csum] using pc),sb]
end Go.Proofs.YtbmdealiikoplaaGreat.PvGJ
set_option linter.unusedVariables false
set_option linter.unusedSimpArgs false
namespace Go.Proofs.YtbmdealiikoplaaGreat.PvGJ
open Go Go.Pv Go.Pv.GS Go.IntKind
open Classical
theorem together_l0 (l:List TBucket) (k:Int) (hl:l.length<1000000):∀ (suf pre:List TBucket) (x:List Int) (i:Int),l=pre++suf→i=(pre.length:Int)→x.length≤pre.length →
  f_r05_Together.l0 l k x i=some (x++(suf.filter (fun b=>decide (b.f0=k))).map (·.f1)):=by
 intro suf
 induction suf with
 | nil=>intro pre x i h1 hi _;subst h1;rw[f_r05_Together.l0,if_neg (by simp[hi])];simp
 | cons b suf ih =>
  intro pre x i h1 hi hx
  have hlen:(l.length:Int)=pre.length+(suf.length+1):=by rw[h1];simp
  rw[f_r05_Together.l0,if_pos (by simp;omega),at_mid h1 hi,sb,wrap64 (by omega) (by omega)]
  by_cases h:b.f0=k
  ·rw[if_pos (by simpa using h),chkB (by simp;omega),sb,ih (pre++[b]) _ (i+1) (by simp[h1]) (by simp;omega) (by simp;omega)]
   simp[h]
  ·rw[if_neg (by simpa using h),sb,ih (pre++[b]) _ (i+1) (by simp[h1]) (by simp;omega) (by simp;omega)]
   simp[h]
theorem tot_sum (l:List TBucket) (k:Int):((l.filter (fun b=>decide (b.f0=k))).map (·.f1)).sum=tot l k:=by
 induction l with
 | nil=>rfl
 | cons b l ih =>
  by_cases h:b.f0=k
  ·rw[List.filter_cons_of_pos (by simpa using h),List.map_cons,List.sum_cons,ih,tot,if_pos h]
  ·rw[List.filter_cons_of_neg (by simpa using h),ih,tot,if_neg h];omega
theorem together_eq (l:List TBucket) (k:Int) (hl:l.length<1000000) (hn:Nn l) (ht:cnt l<18446744073709551616):f_r05_Together.f l k=some (tot l k,0):=by
 unfold f_r05_Together.f
 have h1:=tot_le_cnt hn k
 rw[together_l0 l k hl l [] [] 0 rfl rfl (Nat.le_refl _),sb,List.nil_append,ref_add _ (by
  rw[List.length_map]
  have:=List.length_filter_le (fun b:TBucket=>decide (b.f0=k)) l;omega) (by
  intro x hx
  obtain⟨b,hb,rfl⟩:=List.mem_map.1 hx
  have hb:=(List.mem_filter.1 hb).1
  exact⟨hn b hb,by have:=le_cnt hn hb;omega⟩),sb,tot_sum,if_pos (by omega)]
def Cand (hv:Bool) (last:Int) (b:TBucket):Prop:=hv=false∨last<b.f0
structure Least (hv:Bool) (last:Int) (l:List TBucket) (fd:Bool) (nx:Int):Prop where
 none:fd=false→∀ b∈l,¬ Cand hv last b
 some:fd=true→(∃ b∈l,Cand hv last b∧b.f0=nx)∧∀ b∈l,Cand hv last b→nx≤b.f0
theorem tidy_l1 (l o:List TBucket) (hv:Bool) (last:Int) (hl:l.length<1000000):∀ (suf pre:List TBucket) (fd:Bool) (nx i:Int),l=pre++suf→i=(pre.length:Int)→Least hv last pre fd nx →
  ∃ fd' nx',f_r05_Tidy.l1 l o hv last fd nx i=some (fd',nx')∧Least hv last l fd' nx':=by
 intro suf
 induction suf with
 | nil=>intro pre fd nx i h1 hi hL;rw[List.append_nil] at h1;subst h1;rw[f_r05_Tidy.l1,if_neg (by simp[hi])];exact⟨_,_,rfl,hL⟩
 | cons b suf ih =>
  intro pre fd nx i h1 hi hL
  have hlen:(l.length:Int)=pre.length+(suf.length+1):=by rw[h1];simp
  have e1:l=(pre++[b])++suf:=by simp[h1]
  have e2:i+1=((pre++[b]).length:Int):=by simp;omega
  have hc:((if(!hv)=true then(if(!fd)=true then(some true) else((at? l i)>>=fun b1857=>some (decide (b1857.f0<nx)))) else((at? l i)>>=fun b1860=>if(decide (b1860.f0>last))=true then(if(!fd)=true then(some true) else(some (decide (b1860.f0<nx)))) else(some false))):Option (Bool))=some (decide (Cand hv last b∧(fd=false∨b.f0<nx))):=by
   rw[at_mid h1 hi,sb,sb]
   unfold Cand
   cases hv<;>cases fd<;>simp
   ·by_cases h:last<b.f0<;>simp[h]
   ·by_cases h:last<b.f0<;>simp[h]
  rw[f_r05_Tidy.l1,if_pos (by simp;omega),hc,sb,wrap64 (by omega) (by omega)]
  by_cases h:Cand hv last b∧(fd=false∨b.f0<nx)
  ·rw[if_pos (by simpa using h),at_mid h1 hi,sb,sb]
   simp only[]
   refine ih (pre++[b]) true b.f0 (i+1) e1 e2 ⟨fun h=>(by cases h),fun _=>⟨⟨b,by simp,h.1,rfl⟩,fun c hc hcc => ?_⟩⟩
   rcases List.mem_append.1 hc with hc | hc
   ·rcases h.2 with h2 | h2
    ·exact absurd hcc (hL.none h2 c hc)
    ·cases hfd:fd with
     | false=>exact absurd hcc (hL.none hfd c hc)
     | true=>have:=(hL.some hfd).2 c hc hcc;omega
   ·simp at hc;subst hc;exact Int.le_refl _
  ·rw[if_neg (by simpa using h),sb]
   simp only[]
   refine ih (pre++[b]) fd nx (i+1) e1 e2 ⟨fun hf c hc hcc => ?_,fun hf=>⟨?_,fun c hc hcc => ?_⟩⟩
   ·rcases List.mem_append.1 hc with hc | hc
    ·exact hL.none hf c hc hcc
    ·simp at hc;subst hc;exact h ⟨hcc,.inl hf⟩
   ·obtain⟨c,hc,q⟩:=(hL.some hf).1;exact⟨c,by simp[hc],q⟩
   ·rcases List.mem_append.1 hc with hc | hc
    ·exact(hL.some hf).2 c hc hcc
    ·simp at hc;subst hc
     by_cases h3:nx≤c.f0
     ·exact h3
     ·exact absurd ⟨hcc,.inr (by omega)⟩ h
theorem tidy_l0_ref (l:List TBucket) (hl:l.length<1000000) (hp:∀ b∈l,0<b.f1) (ht:cnt l<18446744073709551616):∀ (n:Nat) (o:List TBucket) (hv:Bool) (last:Int),(l.filter (fun b=>decide (Cand hv last b))).length≤n→Canon o→(∀ b∈o,¬ Cand hv last b)→(∀ i,tot o i=if hv=true∧i≤last then tot l i else 0)→o.length+n≤l.length →
  ∃ o',f_r05_Tidy.l0 l o hv last=some (o',0)∧Canon o'∧(∀ i,tot o' i=tot l i)∧o'.length≤l.length:=by
 have hn:Nn l:=fun b hb=>Int.le_of_lt (hp b hb)
 intro n
 induction n with
 | zero =>
  intro o hv last hm hc ho hto hln
  obtain⟨fd,nx,e,hL⟩:=tidy_l1 l o hv last hl l [] false 0 0 rfl rfl ⟨by simp,by simp⟩
  have hfd:fd=false:=by
   cases hfd:fd with
   | false=>rfl
   | true =>
    obtain⟨b,hb,hbc,_⟩:=(hL.some hfd).1
    have:b∈l.filter (fun b=>decide (Cand hv last b)):=List.mem_filter.2 ⟨hb,by simpa using hbc⟩
    have:=List.length_pos_of_mem this;omega
  rw[f_r05_Tidy.l0,e,sb]
  simp only[hfd]
  rw[if_pos (by rfl)]
  refine⟨o,rfl,hc,fun i => ?_,by omega⟩
  rw[hto]
  by_cases h:hv=true∧i≤last
  ·rw[if_pos h]
  ·rw[if_neg h,tot_zero]
   rintro b hb rfl
   apply hL.none hfd b hb
   unfold Cand
   cases hv with
   | false=>exact .inl rfl
   | true=>right;by_cases h2:last<b.f0;exact h2;exact absurd ⟨rfl,by omega⟩ h
 | succ n ih =>
  intro o hv last hm hc ho hto hln
  obtain⟨fd,nx,e,hL⟩:=tidy_l1 l o hv last hl l [] false 0 0 rfl rfl ⟨by simp,by simp⟩
  cases hfd:fd with
  | false =>
   rw[f_r05_Tidy.l0,e,sb]
   simp only[hfd]
   rw[if_pos (by rfl)]
   refine⟨o,rfl,hc,fun i => ?_,by omega⟩
   rw[hto]
   by_cases h:hv=true∧i≤last
   ·rw[if_pos h]
   ·rw[if_neg h,tot_zero]
    rintro b hb rfl
    apply hL.none hfd b hb
    unfold Cand
    cases hv with
    | false=>exact .inl rfl
    | true=>right;by_cases h2:last<b.f0;exact h2;exact absurd ⟨rfl,by omega⟩ h
  | true =>
   obtain⟨⟨b,hb,hbc,hbn⟩,hmin⟩:=hL.some hfd
   have hpos:0<tot l nx:=by have:=tot_mem hn hb;have:=hp b hb;rw[hbn] at *;omega
   rw[f_r05_Tidy.l0,e,sb]
   simp only[hfd]
   rw[if_neg (by simp),together_eq l nx hl hn ht,sb,if_neg (by simp),if_pos (by simpa using hpos),chkB (by simp;omega),sb]
   have hlt:∀ c∈o,c.f0<nx:=fun c hc2=>by
    have:=ho c hc2
    unfold Cand at this hbc
    rcases hbc with h1 | h1
    ·exact absurd (.inl h1) this
    ·have:¬ last<c.f0:=fun h=>this (.inr h)
     omega
   refine ih (o++[⟨nx,tot l nx⟩]) true nx ?_ ?_ ?_ ?_ (by simp;omega)
   ·
    have hsub:(l.filter (fun b=>decide (Cand true nx b)))=(l.filter (fun b=>decide (Cand hv last b))).filter (fun b=>decide (nx<b.f0)):=by
     rw[List.filter_filter]
     apply List.filter_congr
     intro c hc2
     unfold Cand
     by_cases h1:nx<c.f0
     ·have:hv=false∨last<c.f0:=by
       unfold Cand at hbc
       rcases hbc with h2 | h2
       ·exact .inl h2
       ·exact .inr (by omega)
      simp[h1,this]
     ·simp[h1]
    rw[hsub]
    have hmem:b∈l.filter (fun b=>decide (Cand hv last b)):=List.mem_filter.2 ⟨hb,by simpa using hbc⟩
    have:((l.filter (fun b=>decide (Cand hv last b))).filter (fun b=>decide (nx<b.f0))).length<(l.filter (fun b=>decide (Cand hv last b))).length:=by
     rw[List.length_filter_lt_length_iff_exists]
     exact⟨b,hmem,by simp;omega⟩
    omega
   ·exact⟨List.pairwise_append.2 ⟨hc.up,List.pairwise_singleton _ _,fun c hc2 d hd=>by simp at hd;subst hd;exact hlt c hc2⟩,fun c hc2=>by
     rcases List.mem_append.1 hc2 with h | h
     ·exact hc.pos c h
     ·simp at h;subst h;exact hpos⟩
   ·intro c hc2 hcc
    unfold Cand at hcc
    rcases List.mem_append.1 hc2 with h | h
    ·have:=hlt c h;simp at hcc;omega
    ·simp at h;subst h;simp at hcc
   ·intro i
    rw[tot_append,tot_one,hto]
    simp only[true_and]
    by_cases h1:i=nx
    ·subst h1
     have:¬ (hv=true∧i≤last):=by
      rintro⟨h2,h3⟩
      unfold Cand at hbc
      rcases hbc with h | h
      ·rw[h2] at h;cases h
      ·omega
     rw[if_neg this,if_pos rfl,if_pos (Int.le_refl _)];omega
    ·rw[if_neg (show ¬ nx=i from fun h=>h1 h.symm)]
     by_cases h2:i≤nx
     ·rw[if_pos h2]
      by_cases h3:hv=true∧i≤last
      ·rw[if_pos h3];omega
      ·rw[if_neg h3,tot_zero]
       ·rfl
       ·rintro c hc2 rfl
        have:Cand hv last c:=by
         unfold Cand
         cases hv with
         | false=>exact .inl rfl
         | true=>right;by_cases h4:last<c.f0;exact h4;exact absurd ⟨rfl,by omega⟩ h3
        have:=hmin c hc2 this;omega
     ·rw[if_neg h2,if_neg]
      ·rfl
      ·rintro⟨h3,h4⟩
       unfold Cand at hbc
       rcases hbc with h | h
       ·rw[h3] at h;cases h
       ·omega
theorem tidy_ref (l:List TBucket) (hl:l.length<1000000) (hp:∀ b∈l,0<b.f1) (ht:cnt l<18446744073709551616) :
  ∃ o,f_r05_Tidy.f l=some (o,0)∧Canon o∧(∀ i,tot o i=tot l i)∧o.length≤l.length:=by
 unfold f_r05_Tidy.f
 obtain⟨o,e,h⟩:=tidy_l0_ref l hl hp ht _ [] false 0 (List.length_filter_le _ _) ⟨List.Pairwise.nil,by simp⟩ (by simp) (by simp[tot]) (by simp)
 rw[e];exact⟨o,rfl,h⟩
theorem ref_of {s u k:Int} (hs:RightS s) (hu : -262144<u∧u≤262144) (h1:(k-1)*stp s<u) (h2:u≤k*stp s):f_r04_Of.f s u=some (k,true):=by
 have hp:=stp_pos s
 have hle:=stp_le hs
 have hk : -262144≤k∧k≤262145:=by
  constructor
  ·by_cases h:k < -262144
   ·have:=Int.mul_le_mul_of_nonneg_right (show k ≤ -262145 by omega) (Int.le_of_lt hp)
    have:=Int.mul_le_mul_of_nonneg_left (show 1≤stp s by omega) (show(0:Int)≤262145 by omega)
    omega
   ·omega
  ·by_cases h:262145<k
   ·have:=Int.mul_le_mul_of_nonneg_right (show 262145≤k-1 by omega) (Int.le_of_lt hp)
    have:=Int.mul_le_mul_of_nonneg_left (show 1≤stp s by omega) (show(0:Int)≤262145 by omega)
    omega
   ·omega
 have htd:Int.tdiv u (stp s)=k∨Int.tdiv u (stp s)=k-1:=by
  by_cases h0:0≤u
  ·rw[Int.tdiv_eq_ediv_of_nonneg h0]
   have e1:=Int.ediv_mul_le u (show stp s≠0 by omega)
   have e2:=Int.lt_ediv_add_one_mul_self u hp
   generalize u / stp s=q at *
   have a1:=Int.lt_of_mul_lt_mul_right (show(k-1)*stp s<(q+1)*stp s by omega) (Int.le_of_lt hp)
   have a2:=Int.le_of_mul_le_mul_right (show q*stp s≤k*stp s by omega) hp
   omega
  ·have e0:Int.tdiv u (stp s) = -((-u) / stp s):=by
    rw[← Int.tdiv_eq_ediv_of_nonneg (show 0 ≤ -u by omega),Int.neg_tdiv];omega
   rw[e0]
   have e1:=Int.ediv_mul_le (-u) (show stp s≠0 by omega)
   have e2:=Int.lt_ediv_add_one_mul_self (-u) hp
   generalize (-u) / stp s=q at *
   rw[Int.add_mul] at e2
   rw[Int.sub_mul] at h1
   have a1:=Int.le_of_mul_le_mul_right (show q*stp s≤(-(k-1))*stp s by rw[Int.neg_mul,Int.sub_mul];omega) hp
   have a2:=Int.lt_of_mul_lt_mul_right (show(-k)*stp s<(q+1)*stp s by rw[Int.neg_mul,Int.add_mul];omega) (Int.le_of_lt hp)
   by_cases hq:q = -k
   ·omega
   ·have:q=1-k:=by omega
    subst this
    rw[Int.sub_mul] at e1;omega
 have hU:∀ j:Int,j=k∨j=k-1→f_r04_Units.f s j=some (j*stp s):=fun j hj=>ref_units hs (by omega)
 have hl1:f_r04_Of.l1 s u k=some k:=by
  rw[f_r04_Of.l1,wrap64 (by omega) (by omega),hU _ (.inr rfl),sb,if_neg (by simp;omega)]
 have hl0k:f_r04_Of.l0 s u k=some k:=by
  rw[f_r04_Of.l0,hU _ (.inl rfl),sb,if_neg (by simp;omega)]
 have hl0:f_r04_Of.l0 s u (Int.tdiv u (stp s))=some k:=by
  rcases htd with h | h
  ·rw[h,hl0k]
  ·rw[h,f_r04_Of.l0,hU _ (.inr rfl),sb,if_pos (by simp;omega),wrap64 (by omega) (by omega),show k-1+1=k by omega,hl0k]
 unfold f_r04_Of.f
 rw[ref_right,sb,if_neg (by simp[hs]),if_neg (by simp;omega),sb,if_neg (by simp;omega),ref_step hs,sb,chkB (by omega),wrap64 (by rcases htd with h | h<;>omega) (by rcases htd with h | h<;>omega),hl0,sb,hl1,sb]
theorem ref_to {f t i:Int} (hf:RightS f) (ht:RightS t) (h:t≤f) (hi:InS f i):f_r04_To.f f t i=some (upI f t i,0):=by
 have hsm:=inS_small hi
 obtain⟨h3,h4⟩:=upI_spec f t i
 have hst:=stp_rat h hf.2
 have hp:=stp_pos f
 unfold f_r04_To.f
 rw[ref_right,sb,if_neg (by simp[hf]),ref_right,sb,if_neg (by simp[ht]),sb,if_neg (by simp;omega),ref_in hf (inS_i64 hi),sb,if_neg (by simp[hi]),ref_units hf (by omega),sb,
  ref_of ht hi (k:=upI f t i) (by
   rw[hst,Int.mul_comm (stp f),← Int.mul_assoc]
   exact Int.mul_lt_mul_of_pos_right h3 hp) (by
   rw[hst,Int.mul_comm (stp f),← Int.mul_assoc]
   exact Int.mul_le_mul_of_nonneg_right h4 (Int.le_of_lt hp)),sb]
theorem coarse_l0 (l:List TBucket) (f t:Int) (hf:RightS f) (ht:RightS t) (h:t≤f) (hl:l.length<1000000) (hi:∀ b∈l,InS f b.f0):∀ (suf pre o:List TBucket) (i:Int),l=pre++suf→i=(pre.length:Int)→o.length=pre.length →
  f_r07_coarse.l0 l f t o i=some (o++downL f t suf):=by
 intro suf
 induction suf with
 | nil=>intro pre o i h1 hi0 _;subst h1;rw[f_r07_coarse.l0,if_neg (by simp[hi0])];simp[downL]
 | cons x suf ih =>
  intro pre o i h1 hi0 ho
  have hx:=hi x (by rw[h1];simp)
  have hlen:(l.length:Int)=pre.length+(suf.length+1):=by rw[h1];simp
  rw[f_r07_coarse.l0,if_pos (by simp;omega),at_mid h1 hi0,sb,ref_to hf ht h hx,sb,chkB (by simp;omega),wrap64 (by omega) (by omega)]
  rw[ih (pre++[x]) _ (i+1) (by simp[h1]) (by simp;omega) (by simp;omega)]
  simp[downL]
theorem coarse_eq (l:List TBucket) (f t:Int) (hf:RightS f) (ht:RightS t) (h:t≤f) (hc:Cs f l) (hct:cnt l<18446744073709551616) :
  ∃ o,f_r07_coarse.f l f t=some o∧Canon o∧(∀ i,tot o i=tot (downL f t l) i)∧o.length≤l.length:=by
 have hl:=hc.len
 have hd:=cs_down hf ht h hc
 obtain⟨o,e,h1,h2,h3⟩:=tidy_ref (downL f t l) (by rw[downL_len];omega) hd.pos (by rw[cnt_downL];exact hct)
 unfold f_r07_coarse.f
 rw[coarse_l0 l f t hf ht h (by omega) hc.ins l [] [] 0 rfl rfl rfl,sb,List.nil_append,e]
 exact⟨o,rfl,h1,h2,by rw[downL_len] at h3;exact h3⟩
theorem within_l0 (s a:Int) (l:List TBucket) (hs:RightS s) (hl:l.length<1000000000) (hi:∀ b∈l,InS s b.f0):∀ (suf pre:List TBucket) (i:Int),l=pre++suf→i=(pre.length:Int) →
  f_r07_within.l0 s l a i=some (if Strad s a suf then .inl (cg s a) else .inr ()):=by
 intro suf
 induction suf with
 | nil=>intro pre i h1 hi0;subst h1;rw[f_r07_within.l0,if_neg (by simp[hi0]),if_neg (by simp[Strad])]
 | cons x suf ih =>
  intro pre i h1 hi0
  have hx:=hi x (by rw[h1];simp)
  have hsm:=inS_small hx
  have hlen:(l.length:Int)=pre.length+(suf.length+1):=by rw[h1];simp
  rw[f_r07_within.l0,if_pos (by simp;omega),at_mid h1 hi0,sb,sb,wrap64 (n:=x.f0-1) (by omega) (by omega),ref_units hs (i:=x.f0-1) (by omega),sb,ref_units hs (i:=x.f0) (by omega),sb,sb,ifand,sb]
  by_cases hc:(x.f0-1)*stp s<a∧a<x.f0*stp s
  ·rw[if_pos (by simpa using hc),if_pos ⟨x,by simp,hc⟩,cg_eq hc.1 (by omega)]
  ·rw[if_neg (by simpa using hc),wrap64 (by omega) (by omega),ih (pre++[x]) (i+1) (by simp[h1]) (by simp;omega)]
   have:Strad s a (x::suf)↔Strad s a suf:=by
    constructor
    ·rintro⟨b,hb,h⟩
     rcases List.mem_cons.1 hb with rfl | hb
     ·exact absurd h hc
     ·exact⟨b,hb,h⟩
    ·rintro⟨b,hb,h⟩;exact⟨b,by simp[hb],h⟩
   by_cases hst:Strad s a suf
   ·rw[if_pos hst,if_pos (this.2 hst)]
   ·rw[if_neg hst,if_neg (fun q=>hst (this.1 q))]
theorem within_eq (s a:Int) (l:List TBucket) (hs:RightS s) (hl:l.length<1000000000) (hi:∀ b∈l,InS s b.f0):f_r07_within.f s l a=some (if Strad s a l then cg s a else a):=by
 unfold f_r07_within.f
 rw[within_l0 s a l hs hl hi l [] 0 rfl rfl,sb]
 by_cases hst:Strad s a l
 ·rw[if_pos hst,if_pos hst]
 ·rw[if_neg hst,if_neg hst]
theorem rsw_l0 (h:THist) (a:Int) (hs:RightS h.f1) (hl:h.f6.length<1000000) (hi:∀ b∈h.f6,InS h.f1 b.f0) (hU:∀ b∈h.f6,0≤b.f1):∀ (suf pre:List TBucket) (z:Int) (o:List TBucket) (i:Int),h.f6=pre++suf→i=(pre.length:Int)→0≤z→z+cnt suf<18446744073709551616→o.length≤pre.length →
  f_r07_swallow.l0 h a z o i=some (z+cnt (dropL h.f1 a suf),o++keepL h.f1 a suf):=by
 intro suf
 induction suf with
 | nil=>intro pre z o i h1 hi0 _ _ _;rw[f_r07_swallow.l0,if_neg (by rw[h1];simp[hi0])];simp[cnt]
 | cons x suf ih =>
  intro pre z o i h1 hi0 h0 hz ho
  have hx:=hi x (by rw[h1];simp)
  have hsm:=inS_small hx
  have hx1:=hU x (by rw[h1];simp)
  have hn:0≤cnt suf:=cnt_nonneg (fun b hb=>hU b (by rw[h1];simp[hb]))
  have hlen:(h.f6.length:Int)=pre.length+(suf.length+1):=by rw[h1];simp
  rw[cnt_cons] at hz
  rw[f_r07_swallow.l0,if_pos (by simp;omega),at_mid h1 hi0,sb,ref_units hs (by omega),sb,wrap64 (by omega) (by omega)]
  by_cases hc:a<x.f0*stp h.f1
  ·rw[if_neg (by simp;omega),chkB (by simp;omega),sb]
   simp only[]
   rw[ih (pre++[x]) z (o++[x]) (i+1) (by simp[h1]) (by simp;omega) h0 (by omega) (by simp;omega)]
   simp[hc]
  ·rw[if_pos (by simp;omega),wrapU (by omega) (by omega),sb]
   simp only[]
   rw[ih (pre++[x]) (z+x.f1) o (i+1) (by simp[h1]) (by simp;omega) (by omega) (by omega) (by simp;omega)]
   rw[show keepL h.f1 a (x::suf)=keepL h.f1 a suf from List.filter_cons_of_neg (by simpa using hc),show dropL h.f1 a (x::suf)=x::dropL h.f1 a suf from List.filter_cons_of_pos (by simpa using hc),cnt_cons,Int.add_assoc]
theorem rsw_l1 (h:THist) (a:Int) (q:List TBucket) (hs:RightS h.f1) (hl:h.f7.length<1000000) (hi:∀ b∈h.f7,InS h.f1 b.f0) (hU:∀ b∈h.f7,0≤b.f1):∀ (suf pre:List TBucket) (z:Int) (o:List TBucket) (i:Int),h.f7=pre++suf→i=(pre.length:Int)→0≤z→z+cnt suf<18446744073709551616→o.length≤pre.length →
  f_r07_swallow.l1 h a q z o i=some (z+cnt (dropL h.f1 a suf),o++keepL h.f1 a suf):=by
 intro suf
 induction suf with
 | nil=>intro pre z o i h1 hi0 _ _ _;rw[f_r07_swallow.l1,if_neg (by rw[h1];simp[hi0])];simp[cnt]
 | cons x suf ih =>
  intro pre z o i h1 hi0 h0 hz ho
  have hx:=hi x (by rw[h1];simp)
  have hsm:=inS_small hx
  have hx1:=hU x (by rw[h1];simp)
  have hn:0≤cnt suf:=cnt_nonneg (fun b hb=>hU b (by rw[h1];simp[hb]))
  have hlen:(h.f7.length:Int)=pre.length+(suf.length+1):=by rw[h1];simp
  rw[cnt_cons] at hz
  rw[f_r07_swallow.l1,if_pos (by simp;omega),at_mid h1 hi0,sb,ref_units hs (by omega),sb,wrap64 (by omega) (by omega)]
  by_cases hc:a<x.f0*stp h.f1
  ·rw[if_neg (by simp;omega),chkB (by simp;omega),sb]
   simp only[]
   rw[ih (pre++[x]) z (o++[x]) (i+1) (by simp[h1]) (by simp;omega) h0 (by omega) (by simp;omega)]
   simp[hc]
  ·rw[if_pos (by simp;omega),wrapU (by omega) (by omega),sb]
   simp only[]
   rw[ih (pre++[x]) (z+x.f1) o (i+1) (by simp[h1]) (by simp;omega) (by omega) (by omega) (by simp;omega)]
   rw[show keepL h.f1 a (x::suf)=keepL h.f1 a suf from List.filter_cons_of_neg (by simpa using hc),show dropL h.f1 a (x::suf)=x::dropL h.f1 a suf from List.filter_cons_of_pos (by simpa using hc),cnt_cons,Int.add_assoc]
noncomputable def rsw (h:THist) (a:Int):THist:=⟨h.f0,h.f1,zAt h.f1 a h.f6 h.f7,h.f3+cnt (dropL h.f1 (zAt h.f1 a h.f6 h.f7) h.f6)+cnt (dropL h.f1 (zAt h.f1 a h.f6 h.f7) h.f7),h.f4,h.f5,keepL h.f1 (zAt h.f1 a h.f6 h.f7) h.f6,keepL h.f1 (zAt h.f1 a h.f6 h.f7) h.f7⟩
theorem rsw_eq (h:THist) (a:Int) (hs:RightS h.f1) (hp:Cs h.f1 h.f6) (hn:Cs h.f1 h.f7) (h3:0≤h.f3) (ht:cnt h.f6+cnt h.f7+h.f3<18446744073709551616):f_r07_swallow.f h a=some (rsw h a):=by
 have l1:=hp.len
 have l2:=hn.len
 have c1:=cnt_nonneg hp.nn
 have c2:=cnt_nonneg hn.nn
 have d1:cnt (keepL h.f1 (zAt h.f1 a h.f6 h.f7) h.f6)+cnt (dropL h.f1 (zAt h.f1 a h.f6 h.f7) h.f6)=cnt h.f6:=cnt_filter h.f6 _
 have e1:=cnt_nonneg (l:=keepL h.f1 (zAt h.f1 a h.f6 h.f7) h.f6) (fun b hb=>hp.nn b (List.mem_filter.1 hb).1)
 have e2:=cnt_nonneg (l:=dropL h.f1 (zAt h.f1 a h.f6 h.f7) h.f6) (fun b hb=>hp.nn b (List.mem_filter.1 hb).1)
 have hmax:((if(decide ((if Strad h.f1 a h.f7 then cg h.f1 a else a)>(if Strad h.f1 a h.f6 then cg h.f1 a else a)))=true then(some (if Strad h.f1 a h.f7 then cg h.f1 a else a)) else(some (if Strad h.f1 a h.f6 then cg h.f1 a else a))):Option Int)=some (zAt h.f1 a h.f6 h.f7):=by
  rw[← zAt_max]
  by_cases h:(if Strad h.f1 a h.f7 then cg h.f1 a else a)>(if Strad h.f1 a h.f6 then cg h.f1 a else a)
  ·rw[if_pos (by simpa using h),if_pos h]
  ·rw[if_neg (by simpa using h),if_neg h]
 unfold f_r07_swallow.f
 rw[within_eq h.f1 a h.f6 hs (by omega) hp.ins,within_eq h.f1 a h.f7 hs (by omega) hn.ins,sb,sb,hmax,sb,rsw_l0 h _ hs (by omega) hp.ins hp.nn h.f6 [] h.f3 [] 0 rfl rfl h3 (by omega) (Nat.le_refl _),sb]
 simp only[List.nil_append]
 rw[rsw_l1 h _ _ hs (by omega) hn.ins hn.nn h.f7 [] _ [] 0 rfl rfl (by omega) (by omega) (Nat.le_refl _),sb]
 simp only[List.nil_append]
 rfl
theorem strad_of {s a:Int} {l l':List TBucket} (hp:∀ b∈l,0<b.f1) (h:∀ i,tot l i=tot l' i) (hs:Strad s a l):Strad s a l':=by
 obtain⟨b,hb,h1⟩:=hs
 by_cases hc:∃ c∈l',c.f0=b.f0
 ·obtain⟨c,hc,e⟩:=hc;exact⟨c,hc,e ▸ h1⟩
 ·have h2:=tot_mem (fun b hb=>Int.le_of_lt (hp b hb)) hb
  rw[h,tot_zero (fun c hc2 e=>hc ⟨c,hc2,e⟩)] at h2
  have:=hp b hb;omega
theorem zAt_congr {s a:Int} {p n p' n':List TBucket} (hp:∀ b∈p,0<b.f1) (hn:∀ b∈n,0<b.f1) (hp':∀ b∈p',0<b.f1) (hn':∀ b∈n',0<b.f1) (h1:∀ i,tot p i=tot p' i) (h2:∀ i,tot n i=tot n' i):zAt s a p n=zAt s a p' n':=by
 unfold zAt
 have e1:Strad s a p↔Strad s a p':=⟨strad_of hp h1,strad_of hp' (fun i=>(h1 i).symm)⟩
 have e2:Strad s a n↔Strad s a n':=⟨strad_of hn h2,strad_of hn' (fun i=>(h2 i).symm)⟩
 by_cases h:Strad s a p∨Strad s a n
 ·rw[if_pos h,if_pos (by rw[← e1,← e2];exact h)]
 ·rw[if_neg h,if_neg (by rw[← e1,← e2];exact h)]
theorem swal_rsw {h g:THist} {p n:List TBucket} {a:Int} {r:THist} (w:Swal h p n a r) (hp:∀ b∈p,0<b.f1) (hn:∀ b∈n,0<b.f1) (c6:Canon g.f6) (c7:Canon g.f7) (t6:∀ i,tot g.f6 i=tot p i) (t7:∀ i,tot g.f7 i=tot n i)
  (e0:g.f0=h.f0) (e1:g.f1=h.f1) (e3:g.f3=h.f3) (e4:g.f4=cnt p+cnt n+h.f3) (e5:g.f5=h.f5):rsw g a=r:=by
 have hz:zAt g.f1 a g.f6 g.f7=zAt h.f1 a p n:=by rw[e1];exact zAt_congr c6.pos c7.pos hp hn t6 t7
 have k6:Canon (keepL h.f1 (zAt h.f1 a p n) g.f6):=⟨c6.up.filter _,fun b hb=>c6.pos b (List.mem_filter.1 hb).1⟩
 have k7:Canon (keepL h.f1 (zAt h.f1 a p n) g.f7):=⟨c7.up.filter _,fun b hb=>c7.pos b (List.mem_filter.1 hb).1⟩
 have q6:keepL h.f1 (zAt h.f1 a p n) g.f6=r.f6:=canon_unique k6 w.valid.pos.canon (fun i=>by rw[w.tpos,tot_filter g.f6 (above h.f1 (zAt h.f1 a p n)) i,t6])
 have q7:keepL h.f1 (zAt h.f1 a p n) g.f7=r.f7:=canon_unique k7 w.valid.neg.canon (fun i=>by rw[w.tneg,tot_filter g.f7 (above h.f1 (zAt h.f1 a p n)) i,t7])
 have d6:cnt (keepL h.f1 (zAt h.f1 a p n) g.f6)+cnt (dropL h.f1 (zAt h.f1 a p n) g.f6)=cnt g.f6:=cnt_filter g.f6 _
 have d7:cnt (keepL h.f1 (zAt h.f1 a p n) g.f7)+cnt (dropL h.f1 (zAt h.f1 a p n) g.f7)=cnt g.f7:=cnt_filter g.f7 _
 have m6:=cnt_congr t6
 have m7:=cnt_congr t7
 have hc:=w.valid.count
 have hcc:=w.count
 rw[← q6,← q7] at hc
 unfold rsw
 rw[hz,e1]
 exact hist_ext (e0.trans w.kind.symm) w.schema.symm w.zeroAt.symm (by simp only;omega) (by simp only;rw[e4,w.count]) (e5.trans w.sum.symm) q6 q7
theorem ref_Down (a:THist) (s:Int) (hv:Valid a) (hf:Fits a):∃ r e,f_meld_Down.f a s=some (r,e)∧f_r07_Down.f a s=some (r,e):=by
 by_cases h:RightS s∧s≤a.f1
 case neg =>
  refine⟨h0,20,Down_bad a s h,?_⟩
  unfold f_r07_Down.f
  by_cases hs:RightS s
  ·rw[ref_right,sb,if_neg (by simp[hs]),sb,if_pos (by simp;have:¬ s≤a.f1:=fun q=>h ⟨hs,q⟩;omega)];rfl
  ·rw[ref_right,sb,if_pos (by simp[hs]),sb,if_pos rfl];rfl
 obtain⟨hs,hle⟩:=h
 have l1:=hv.pos.len
 have l2:=hv.neg.len
 have h1:=hv.count
 have h2:=hv.total
 have p6:=cs_down hv.schema hs hle (side_cs hv.pos)
 have p7:=cs_down hv.schema hs hle (side_cs hv.neg)
 have n6:=cnt_nonneg hv.pos.canon.nn
 have n7:=cnt_nonneg hv.neg.canon.nn
 have hz:=hf.zero.1
 obtain⟨r,e,w⟩:=swallow_eq (⟨a.f0,s,a.f2,a.f3,a.f4,a.f5,a.f6,a.f7⟩:THist) (downL a.f1 s a.f6) (downL a.f1 s a.f7) a.f2 hv.kind hs hv.zero hz hf.sum p6 p7
  (by rw[downL_len];exact l1) (by rw[downL_len];exact l2) (by rw[cnt_downL,cnt_downL];exact h2)
 refine⟨r,0,?_,?_⟩
 ·unfold f_meld_Down.f
  rw[right_T hs,sb,if_neg (by simp),sb,if_neg (by simp;omega),down_eq a.f6 a.f1 s hv.schema hs hle (by omega) (side_cs hv.pos).ins,down_eq a.f7 a.f1 s hv.schema hs hle (by omega) (side_cs hv.neg).ins,sb,sb,e]
  rfl
 ·obtain⟨o6,e6,c6,t6,m6⟩:=coarse_eq a.f6 a.f1 s hv.schema hs hle (side_cs hv.pos) (by omega)
  obtain⟨o7,e7,c7,t7,m7⟩:=coarse_eq a.f7 a.f1 s hv.schema hs hle (side_cs hv.neg) (by omega)
  have cs6:Cs s o6:=⟨by omega,fun b hb=>by
   by_cases hc:∃ x∈downL a.f1 s a.f6,x.f0=b.f0
   ·obtain⟨x,hx,e⟩:=hc;rw[← e];exact p6.ins x hx
   ·have h3:=t6 b.f0
    rw[c6.tot_of hb,tot_zero (fun x hx e=>hc ⟨x,hx,e⟩)] at h3
    have:=c6.pos b hb;omega,c6.pos⟩
  have cs7:Cs s o7:=⟨by omega,fun b hb=>by
   by_cases hc:∃ x∈downL a.f1 s a.f7,x.f0=b.f0
   ·obtain⟨x,hx,e⟩:=hc;rw[← e];exact p7.ins x hx
   ·have h3:=t7 b.f0
    rw[c7.tot_of hb,tot_zero (fun x hx e=>hc ⟨x,hx,e⟩)] at h3
    have:=c7.pos b hb;omega,c7.pos⟩
  have q6:=cnt_congr t6
  have q7:=cnt_congr t7
  rw[cnt_downL] at q6 q7
  unfold f_r07_Down.f
  rw[ref_right,sb,if_neg (by simp[hs]),sb,if_neg (by simp;omega),e6,e7,sb,sb,rsw_eq (⟨a.f0,s,a.f2,a.f3,a.f4,a.f5,o6,o7⟩:THist) a.f2 hs cs6 cs7 hz (by simp only;omega),sb]
  rw[swal_rsw (g:=(⟨a.f0,s,a.f2,a.f3,a.f4,a.f5,o6,o7⟩:THist)) w p6.pos p7.pos c6 c7 t6 t7 rfl rfl rfl (by simp only[cnt_downL];exact h1) rfl]
theorem ref_Widen (a:THist) (z:Int) (hv:Valid a) (hf:Fits a):∃ r e,f_meld_Widen.f a z=some (r,e)∧f_r07_Widen.f a z=some (r,e):=by
 by_cases h1:z=a.f2
 ·subst h1
  refine⟨a,0,Widen_same a hv,?_⟩
  unfold f_r07_Widen.f
  rw[if_neg (by simp),if_neg (by simp),sb,if_neg (by simp),if_pos (by simp)]
 by_cases h2:a.f2<z ∧ -262144<z∧z≤262144
 ·obtain⟨r,e,w⟩:=Widen_swal a z hv hf h2.2 h2.1
  refine⟨r,0,e,?_⟩
  have hc:=hv.count
  unfold f_r07_Widen.f
  rw[if_neg (by simp;omega),if_pos (by simpa using h1),if_neg (by simp;omega),sb,if_neg (by simp;omega),if_neg (by simpa using h1),rsw_eq a z hv.schema (side_cs hv.pos) (side_cs hv.neg) hf.zero.1 hv.total,sb,
   swal_rsw (g:=a) w (side_cs hv.pos).pos (side_cs hv.neg).pos hv.pos.canon hv.neg.canon (fun _=>rfl) (fun _=>rfl) rfl rfl rfl hc rfl]
 ·refine⟨h0,31,Widen_bad a z (by by_cases h3:z<a.f2;exact .inl h3;exact .inr ⟨h1,fun q=>h2 ⟨by omega,q⟩⟩),?_⟩
  unfold f_r07_Widen.f
  by_cases h3:z<a.f2
  ·rw[if_pos (by simpa using h3),sb,if_pos rfl];rfl
  ·rw[if_neg (by simpa using h3),if_pos (by simpa using h1)]
   have:((if(decide (z≤(-262144)))=true then(some true) else(some (decide (z>(262144:Int))))):Option (Bool))=some true:=by
    by_cases h4:z ≤ -262144
    ·rw[if_pos (by simpa using h4)]
    ·rw[if_neg (by simpa using h4)];simp;omega
   rw[this,sb,if_pos rfl];rfl
theorem rsame_self (l:List TBucket) (hl:l.length<1000000000):f_r05_same.f l l=some true:=by
 unfold f_r05_same.f
 rw[if_neg (by simp)]
 have:∀ (suf pre:List TBucket) (i:Int),l=pre++suf→i=(pre.length:Int)→f_r05_same.l0 l l i=some (.inr ()):=by
  intro suf
  induction suf with
  | nil=>intro pre i h1 hi;subst h1;rw[f_r05_same.l0,if_neg (by simp[hi])]
  | cons x suf ih =>
   intro pre i h1 hi
   have hlen:(l.length:Int)=pre.length+(suf.length+1):=by rw[h1];simp
   rw[f_r05_same.l0,if_pos (by simp;omega),at_mid h1 hi,sb,sb,if_neg (by simp),wrap64 (by omega) (by omega)]
   exact ih (pre++[x]) (i+1) (by simp[h1]) (by simp;omega)
 rw[this l [] 0 rfl rfl];rfl
theorem rSame_self (h:THist) (hp:h.f6.length<1000000000) (hn:h.f7.length<1000000000):f_r05_Same.f h h=some true:=by
 unfold f_r05_Same.f
 rw[rsame_self _ hp,rsame_self _ hn]
 simp[sb]
end Go.Proofs.YtbmdealiikoplaaGreat.PvGJ
