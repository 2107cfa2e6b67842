import Derived.Test.YtinhldbfifpakaaGreatPxEntryApart12
set_option linter.unusedVariables false
set_option linter.unusedSimpArgs false
namespace Go.Proofs.YtinhldbfifpakaaGreat.PvGL
open Go Go.Pv Go.Pv.GS Go.IntKind
open Classical
def wsum (l:List Z3) (w:Int→Int):Int:=(l.map (fun b=>b.f1*w b.f0)).sum
theorem Z8u (b:Z3) (l:List Z3) (w:Int→Int):wsum (b::l) w=b.f1*w b.f0+wsum l w:=by simp[wsum]
theorem wsum_append (a b:List Z3) (w:Int→Int):wsum (a++b) w=wsum a w+wsum b w:=by simp[wsum]
theorem wsum_split (l:List Z3) (i:Int) (w:Int→Int):wsum l w=tot l i*w i+wsum (l.filter (fun b=>decide (b.f0≠i))) w:=by
 induction l with
 | nil=>simp[wsum,tot]
 | cons b l ih =>
  rw[Z8u,ih,tot]
  by_cases h:b.f0=i
  ·subst h;simp[Int.add_mul];omega
  ·rw[if_neg h,List.filter_cons_of_pos (by simpa using h),Z8u,Int.zero_add];omega
theorem Z9o (l:List Z3) (p:Int→Bool) (i:Int):tot (l.filter (fun b=>p b.f0)) i=if p i=true then tot l i else 0:=by
 induction l with
 | nil=>simp[tot]
 | cons b l ih =>
  by_cases h:p b.f0=true
  ·rw[List.filter_cons_of_pos (by simpa using h),tot,ih,tot]
   by_cases e:b.f0=i
   ·subst e;simp[h]
   ·simp[e]
  ·rw[List.filter_cons_of_neg (by simpa using h),ih,tot]
   by_cases e:b.f0=i
   ·subst e;simp[h]
   ·simp[e]
theorem wsum_zero:∀ (n:Nat) (l:List Z3),l.length≤n→(∀ i,tot l i=0)→∀ w,wsum l w=0:=by
 intro n
 induction n with
 | zero =>
  intro l hn _ w
  obtain rfl:l=[]:=List.length_eq_zero_iff.1 (by omega)
  rfl
 | succ n ih =>
  intro l hn h w
  cases l with
  | nil=>rfl
  | cons b l =>
   rw[wsum_split _ b.f0,h,Int.zero_mul,Int.zero_add]
   refine ih _ ?_ (fun i => ?_) w
   ·rw[List.filter_cons_of_neg (by simp)]
    have:=List.length_filter_le (fun b':Z3=>decide (b'.f0≠b.f0)) l
    simp only[List.length_cons] at hn;omega
   ·have:=Z9o        (b::l) (fun j=>decide (j≠b.f0)) i
    rw[this,h];simp
def negl (l:List Z3):List Z3:=l.map (fun b=>⟨b.f0,-b.f1⟩)
theorem tot_negl (l:List Z3) (i:Int):tot (negl l) i = - tot l i:=by
 induction l with
 | nil=>rfl
 | cons b l ih=>simp only[negl,List.map_cons,tot] at *;rw[ih];split<;>omega
theorem Zb4 (l:List Z3) (w:Int→Int):wsum (negl l) w = - wsum l w:=by
 induction l with
 | nil=>rfl
 | cons b l ih=>rw[negl,List.map_cons,Z8u,Z8u];rw[negl] at ih;rw[ih];simp[Int.neg_mul];omega
theorem wsum_congr {l l':List Z3} (h:∀ i,tot l i=tot l' i) (w:Int→Int):wsum l w=wsum l' w:=by
 have:=wsum_zero _ (l++negl l') (Nat.le_refl _) (fun i=>by rw[Z3s,tot_negl,h];omega) w
 rw[wsum_append,Zb4] at this;omega
theorem Z83 (l:List Z3):cnt l=wsum l (fun _=>1):=by simp[cnt,wsum]
theorem Zcc {l l':List Z3} (h:∀ i,tot l i=tot l' i):cnt l=cnt l':=by rw[Z83,Z83,wsum_congr h]
theorem Zcu {l:List Z3} (h:Nn l) (i:Int):tot l i≤cnt l:=by
 induction l with
 | nil=>simp[tot,cnt]
 | cons b l ih =>
  have:=h b (by simp)
  have h2:Nn l:=fun y hy=>h y (by simp[hy])
  have:=ih h2
  have:=Z2b h2
  rw[tot,Z69];split<;>omega
theorem Zdd (l:List Z3) (p:Z3→Bool):cnt (l.filter p)+cnt (l.filter (fun b => !p b))=cnt l:=by
 induction l with
 | nil=>rfl
 | cons b l ih =>
  cases h:p b with
  | true=>rw[List.filter_cons_of_pos h,List.filter_cons_of_neg (by simp[h]),Z69,Z69];omega
  | false=>rw[List.filter_cons_of_neg (by simp[h]),List.filter_cons_of_pos (by simp[h]),Z69,Z69];omega
structure Bs (s z:Int) (l:List Z3):Prop where
 len:l.length≤5000
 ok:∀ b∈l,InS s b.f0∧0≤b.f1∧z≤(b.f0-1)*stp s
theorem Bs.nn {s z:Int} {l:List Z3} (h:Bs s z l):Nn l:=fun b hb=>(h.ok b hb).2.1
theorem le_cnt {l:List Z3} (h:Nn l) {b:Z3} (hb:b∈l):b.f1≤cnt l:=Int.le_trans (tot_mem h hb) (Zcu h _)
theorem tidy_ok {s z:Int} {l:List Z3} (h:Bs s z l) (ht:cnt l<18446744073709551616) :
  ∃ o,Z1h.f l=some (o,0)∧Z4p o∧(∀ i,tot o i=tot l i)∧(∀ b∈o,BOk s z b)∧(∀ b∈o,U64 b.f1)∧o.length≤l.length∧cnt o=cnt l:=by
 have hl:=h.len
 rcases Z6j l (by omega) (fun b hb=>⟨h.nn b hb,by have:=le_cnt h.nn hb;omega⟩) with ⟨o,e,h1,h2,h3,h4,h5⟩ | ⟨e,i,h1⟩
 ·refine⟨o,e,h1,h2,fun b hb => ?_,h3,h5,Zcc       h2⟩
  obtain⟨p,hp,e⟩:=h4 b hb
  have:=h.ok p hp
  exact⟨e ▸ this.1,h1.pos b hb,e ▸ this.2.2⟩
 ·have:=Zcu h.nn i;omega
theorem inS_i64 {s i:Int} (h:InS s i):I64 i:=by have:=Z6q h;constructor<;>omega
theorem Zd3 (g:Z06) (p n:List Z3) (hk:g.f0=0∨g.f0=1) (hs:Z2z g.f1) (hz:g.f2 = -524288∨(-262144<g.f2∧g.f2≤262144)) (h3:0≤g.f3) (h5:I64 g.f5)
  (hp:Bs g.f1 g.f2 p) (hn:Bs g.f1 g.f2 n) (ht:cnt p+cnt n+g.f3<18446744073709551616) (hl:∀ o,Z4p o→(((∀ i,tot o i=tot p i)∧o.length≤p.length)∨((∀ i,tot o i=tot n i)∧o.length≤n.length))→o.length≤512) :
  ∃ r,Z1t.f g p n=some (r,0)∧Z3r r∧Fits r∧r.f0=g.f0∧r.f1=g.f1∧r.f2=g.f2∧r.f3=g.f3∧r.f5=g.f5∧(∀ i,tot r.f6 i=tot p i)∧(∀ i,tot r.f7 i=tot n i)∧r.f4=cnt p+cnt n+g.f3:=by
 have np:=Z2b hp.nn
 have nn:=Z2b hn.nn
 obtain⟨o,e1,c1,t1,b1,u1,l1,q1⟩:=tidy_ok hp (by omega)
 obtain⟨o2,e2,c2,t2,b2,u2,l2,q2⟩:=tidy_ok hn (by omega)
 have hlp:=hp.len
 have hln:=hn.len
 have htot:=total3 o o2 g.f3 (by omega) (by omega) u1 u2 ⟨h3,by omega⟩
 rw[q1,q2,if_pos ht] at htot
 have hf:Fits (⟨g.f0,g.f1,g.f2,g.f3,cnt p+cnt n+g.f3,g.f5,o,o2⟩:Z06) :=
  ⟨by rcases hk with h | h<;>rw[h]<;>constructor<;>omega,by have:=hs.1;have:=hs.2;constructor<;>simp<;>omega,by rcases hz with h | h<;>constructor<;>simp<;>omega,⟨h3,by simp;omega⟩,⟨by simp;omega,ht⟩,h5,
   fun b hb=>⟨inS_i64 (b1 b hb).ins,u1 b hb⟩,fun b hb=>⟨inS_i64 (b2 b hb).ins,u2 b hb⟩⟩
 have hv:Z3r (⟨g.f0,g.f1,g.f2,g.f3,cnt p+cnt n+g.f3,g.f5,o,o2⟩:Z06) :=
  ⟨hk,hs,hz,⟨hl o c1 (.inl ⟨t1,l1⟩),b1,c1.up⟩,⟨hl o2 c2 (.inr ⟨t2,l2⟩),b2,c2.up⟩,by simp only[q1,q2];exact ht,by simp only[q1,q2]⟩
 refine⟨_,?_,hv,hf,rfl,rfl,rfl,rfl,rfl,t1,t2,rfl⟩
 unfold Z1t.f
 rw[e1,e2,sb,sb,if_neg (by simp),htot,sb,if_neg (by simp),check_T _ hf hv,sb,if_neg (by simp)]
def Z5j (s a:Int) (l:List Z3):Prop:=∃ b∈l,(b.f0-1)*stp s<a∧a<b.f0*stp s
def cg (s a:Int):Int:=-((-a) / stp s)*stp s
theorem cg_eq {s a i:Int} (h1:(i-1)*stp s<a) (h2:a≤i*stp s):cg s a=i*stp s:=by
 have hp:=Z6d s
 unfold cg
 generalize stp s=st at *
 have : -((-a) / st)=i:=by
  have e1:=Int.ediv_mul_le (-a) (show st≠0 by omega)
  have e2:=Int.lt_ediv_add_one_mul_self (-a) hp
  generalize (-a) / st=q at *
  rw[Int.add_mul] at e2
  rw[Int.sub_mul] at h1
  have a1 : -q*st<(i+1)*st:=by rw[Int.neg_mul,Int.add_mul];omega
  have a2:(i-1)*st < -q*st:=by rw[Int.neg_mul,Int.sub_mul];omega
  have b1:=Int.lt_of_mul_lt_mul_right a1 (by omega)
  have b2:=Int.lt_of_mul_lt_mul_right a2 (by omega)
  omega
 rw[this]
theorem edge_l0 (h:Z06) (l:List Z3) (a:Int) (hs:Z2z h.f1) (hl:l.length<1000000000) (hi:∀ b∈l,InS h.f1 b.f0):∀ (suf pre:List Z3) (i:Int),l=pre++suf→i=(pre.length:Int) →
  Z2d.l0 h l a i=some (if Z5j h.f1 a suf then .inl (cg h.f1 a) else .inr ()):=by
 intro suf
 induction suf with
 | nil =>
  intro pre i h1 hi0
  subst h1
  rw[Z2d.l0,if_neg (by simp[hi0]),if_neg (by simp[Z5j])]
 | cons x suf ih =>
  intro pre i h1 hi0
  have hx:=hi x (by rw[h1];simp)
  have hlen:(l.length:Int)=pre.length+(suf.length+1):=by rw[h1];simp
  rw[Z2d.l0,if_pos (by simp;omega),Z1q h1 hi0,sb,low_T hs hx,sb,units_in hs hx,sb,ifand,sb,sb]
  by_cases hc:(x.f0-1)*stp h.f1<a∧a<x.f0*stp h.f1
  ·rw[if_pos (by simpa using hc),if_pos ⟨x,by simp,hc⟩,cg_eq hc.1 (by omega)]
  ·rw[if_neg (by simpa using hc),Zf     (by omega) (by omega),ih (pre++[x]) (i+1) (by simp[h1]) (by simp;omega)]
   have:Z5j h.f1 a (x::suf)↔Z5j h.f1 a suf:=by
    constructor
    ·rintro⟨b,hb,h⟩
     rcases List.mem_cons.1 hb with rfl | hb
     ·exact absurd h hc
     ·exact⟨b,hb,h⟩
    ·rintro⟨b,hb,h⟩;exact⟨b,by simp[hb],h⟩
   by_cases hst:Z5j h.f1 a suf
   ·rw[if_pos hst,if_pos (this.2 hst)]
   ·rw[if_neg hst,if_neg (fun q=>hst (this.1 q))]
theorem edge_eq (h:Z06) (l:List Z3) (a:Int) (hs:Z2z h.f1) (hl:l.length<1000000000) (hi:∀ b∈l,InS h.f1 b.f0) :
  Z2d.f h l a=some (if Z5j h.f1 a l then cg h.f1 a else a):=by
 unfold Z2d.f
 rw[edge_l0 h l a hs hl hi l [] 0 rfl rfl,sb]
 by_cases hst:Z5j h.f1 a l
 ·rw[if_pos hst,if_pos hst]
 ·rw[if_neg hst,if_neg hst]
abbrev above (s a:Int) (i:Int):Bool:=decide (a<i*stp s)
abbrev Zbw (s a:Int) (l:List Z3):List Z3:=l.filter (fun b=>above s a b.f0)
abbrev Zaq (s a:Int) (l:List Z3):List Z3:=l.filter (fun b => !above s a b.f0)
theorem keep_l0 (l:List Z3) (c0 s c2 c4 c5:Int) (c6 c7:List Z3) (a:Int) (hs:Z2z s) (hl:l.length<1000000) (hi:∀ b∈l,InS s b.f0) (hU:∀ b∈l,0≤b.f1):∀ (suf pre:List Z3) (z:Int) (o:List Z3) (i:Int),l=pre++suf→i=(pre.length:Int)→0≤z→z+cnt suf<18446744073709551616→o.length≤pre.length →
  Z0o.l0 l c0 s c2 c4 c5 c6 c7 a z o i=some (o++Zbw s a suf,z+cnt (Zaq s a suf)):=by
 intro suf
 induction suf with
 | nil =>
  intro pre z o i h1 hi0 _ _ _
  subst h1
  rw[Z0o.l0,if_neg (by simp[hi0])]
  simp[cnt]
 | cons x suf ih =>
  intro pre z o i h1 hi0 h0 hz ho
  have hx:=hi x (by rw[h1];simp)
  have hx1:=hU x (by rw[h1];simp)
  have hn:0≤cnt suf:=Z2b (fun b hb=>hU b (by rw[h1];simp[hb]))
  have hlen:(l.length:Int)=pre.length+(suf.length+1):=by rw[h1];simp
  rw[Z69] at hz
  rw[Z0o.l0,if_pos (by simp;omega),Z1q h1 hi0,sb,units_in hs hx,sb,Zf (by omega) (by omega),num_add2 (a:=z) (b:=x.f1) ⟨h0,by omega⟩ ⟨hx1,by omega⟩]
  by_cases hc:a<x.f0*stp s
  ·rw[if_pos (by simpa using hc),chkB (by simp;omega),sb]
   simp only[]
   rw[ih (pre++[x]) z (o++[x]) (i+1) (by simp[h1]) (by simp;omega) h0 (by omega) (by simp;omega)]
   simp[hc]
  ·rw[if_neg (by simpa using hc),if_pos (by omega),sb,sb]
   simp only[]
   rw[ih (pre++[x]) (z+x.f1) o (i+1) (by simp[h1]) (by simp;omega) (by omega) (by omega) (by simp;omega)]
   rw[show Zbw s a (x::suf)=Zbw s a suf from List.filter_cons_of_neg (by simpa using hc),show Zaq s a (x::suf)=x::Zaq s a suf from List.filter_cons_of_pos (by simpa using hc),Z69,Int.add_assoc]
theorem keep_eq (l:List Z3) (c0 s c2 z c4 c5:Int) (c6 c7:List Z3) (a:Int) (hs:Z2z s) (hl:l.length<1000000) (hi:∀ b∈l,InS s b.f0) (hU:∀ b∈l,0≤b.f1) (h0:0≤z) (hz:z+cnt l<18446744073709551616) :
  Z0o.f l c0 s c2 z c4 c5 c6 c7 a=some (Zbw s a l,z+cnt (Zaq s a l)):=by
 unfold Z0o.f
 rw[keep_l0 l c0 s c2 c4 c5 c6 c7 a hs hl hi hU l [] z [] 0 rfl rfl h0 hz (Nat.le_refl _),sb]
 simp
noncomputable def zAt (s a:Int) (p n:List Z3):Int:=if Z5j s a p∨Z5j s a n then cg s a else a
theorem strad_lt {s a:Int} {l:List Z3} (h:Z5j s a l):a<cg s a:=by
 obtain⟨b,hb,h1,h2⟩:=h
 rw[cg_eq h1 (by omega)];exact h2
theorem zAt_max (s a:Int) (p n:List Z3):(if(if Z5j s a n then cg s a else a)>(if Z5j s a p then cg s a else a) then(if Z5j s a n then cg s a else a) else(if Z5j s a p then cg s a else a))=zAt s a p n:=by
 unfold zAt
 by_cases h1:Z5j s a p
 ·have:=strad_lt h1
  by_cases h2:Z5j s a n<;>simp[h1,h2];omega
 ·by_cases h2:Z5j   s a n
  ·have:=strad_lt h2
   simp[h1,h2];omega
  ·simp[h1,h2]
theorem zAt_le (s a:Int) (p n:List Z3):a≤zAt s a p n:=by
 unfold zAt
 split
 ·rename_i h;rcases h with h | h<;>exact Int.le_of_lt (strad_lt h)
 ·exact Int.le_refl _
structure Cs (s:Int) (l:List Z3):Prop where
 len:l.length≤5000
 ins:∀ b∈l,InS s b.f0
 pos:∀ b∈l,0<b.f1
theorem Cs.nn {s:Int} {l:List Z3} (h:Cs s l):Nn l:=fun b hb=>Int.le_of_lt (h.pos b hb)
theorem kept_low {s a:Int} {p n l:List Z3} (hl:l=p∨l=n) {b:Z3} (hb:b∈l) (h:zAt s a p n<b.f0*stp s):zAt s a p n≤(b.f0-1)*stp s:=by
 have hp:=Z6d s
 unfold zAt at *
 by_cases hc:Z5j s a p∨Z5j s a n
 ·rw[if_pos hc] at *
  unfold cg at *
  have h1:=Int.lt_of_mul_lt_mul_right h (Int.le_of_lt hp)
  exact Int.mul_le_mul_of_nonneg_right (by omega) (Int.le_of_lt hp)
 ·rw[if_neg hc] at *
  by_cases h2:(b.f0-1)*stp s<a
  ·rcases hl with rfl | rfl
   ·exact absurd (.inl ⟨b,hb,h2,h⟩) hc
   ·exact absurd (.inr ⟨b,hb,h2,h⟩) hc
  ·omega
theorem zAt_range {s a:Int} {p n:List Z3} (hp:∀ b∈p,InS s b.f0) (hn:∀ b∈n,InS s b.f0) (ha:a = -524288∨(-262144<a∧a≤262144)):zAt s a p n = -524288∨(-262144<zAt s a p n∧zAt s a p n≤262144):=by
 unfold zAt
 split
 ·rename_i h
  rcases h with ⟨b,hb,h1,h2⟩ | ⟨b,hb,h1,h2⟩
  ·rw[cg_eq h1 (by omega)];exact .inr (hp b hb)
  ·rw[cg_eq h1 (by omega)];exact .inr (hn b hb)
 ·exact ha
structure Swal (h:Z06) (p n:List Z3) (a:Int) (r:Z06):Prop where
 valid:Z3r r
 fits:Fits r
 kind:r.f0=h.f0
 schema:r.f1=h.f1
 zeroAt:r.f2=zAt h.f1 a p n
 zero:r.f3=h.f3+cnt (Zaq h.f1 (zAt h.f1 a p n) p)+cnt (Zaq h.f1 (zAt h.f1 a p n) n)
 sum:r.f5=h.f5
 tpos:∀ i,tot r.f6 i=if above h.f1 (zAt h.f1 a p n) i=true then tot p i else 0
 tneg:∀ i,tot r.f7 i=if above h.f1 (zAt h.f1 a p n) i=true then tot n i else 0
 count:r.f4=cnt p+cnt n+h.f3
theorem Zcy (h:Z06) (p n:List Z3) (a:Int) (hk:h.f0=0∨h.f0=1) (hs:Z2z h.f1) (ha:a = -524288∨(-262144<a∧a≤262144)) (h3:0≤h.f3) (h5:I64 h.f5) (hp:Cs h.f1 p) (hn:Cs h.f1 n) (hpl:p.length≤512) (hnl:n.length≤512)
  (ht:cnt p+cnt n+h.f3<18446744073709551616):∃ r,Z3a.f h p n a=some (r,0)∧Swal h p n a r:=by
 have c1:=Z2b hp.nn
 have c2:=Z2b hn.nn
 have d1:cnt (Zbw h.f1 (zAt h.f1 a p n) p)+cnt (Zaq h.f1 (zAt h.f1 a p n) p)=cnt p:=Zdd p _
 have d2:cnt (Zbw h.f1 (zAt h.f1 a p n) n)+cnt (Zaq h.f1 (zAt h.f1 a p n) n)=cnt n:=Zdd n _
 have e1:=Z2b (l:=Zbw h.f1 (zAt h.f1 a p n) p) (fun b hb=>hp.nn b ((List.mem_filter.1 hb).1))
 have e2:=Z2b (l:=Zbw h.f1 (zAt h.f1 a p n) n) (fun b hb=>hn.nn b ((List.mem_filter.1 hb).1))
 have e3:=Z2b (l:=Zaq h.f1 (zAt h.f1 a p n) p) (fun b hb=>hp.nn b ((List.mem_filter.1 hb).1))
 have e4:=Z2b (l:=Zaq h.f1 (zAt h.f1 a p n) n) (fun b hb=>hn.nn b ((List.mem_filter.1 hb).1))
 have hb:∀ l,(l=p∨l=n)→Cs h.f1 l→Bs h.f1 (zAt h.f1 a p n) (Zbw h.f1 (zAt h.f1 a p n) l):=fun l hl hc =>
  ⟨Nat.le_trans (List.length_filter_le _ _) hc.len,fun b hb=>by
   obtain⟨h1,h2⟩:=List.mem_filter.1 hb
   exact⟨hc.ins b h1,Int.le_of_lt (hc.pos b h1),kept_low hl h1 (by simpa using h2)⟩⟩
 obtain⟨r,g1,g2,g3,g4,g5,g6,g7,g8,g9,g10,g11⟩:=Zd3 (⟨h.f0,h.f1,zAt h.f1 a p n,h.f3+cnt (Zaq h.f1 (zAt h.f1 a p n) p)+cnt (Zaq h.f1 (zAt h.f1 a p n) n),h.f4,h.f5,h.f6,h.f7⟩:Z06)
  (Zbw h.f1 (zAt h.f1 a p n) p) (Zbw h.f1 (zAt h.f1 a p n) n) hk hs (zAt_range hp.ins hn.ins ha) (by simp;omega) h5 (hb p (.inl rfl) hp) (hb n (.inr rfl) hn) (by simp only;omega) (fun o ho hto=>by
   rcases hto with hto | hto
   ·exact Nat.le_trans hto.2 (Nat.le_trans (List.length_filter_le _ _) hpl)
   ·exact Nat.le_trans hto.2 (Nat.le_trans (List.length_filter_le _ _) hnl))
 refine⟨r,?_,⟨g2,g3,g4,g5,g6,g7,g8,fun i => ?_,fun i => ?_,?_⟩⟩
 ·have l1:=hp.len
  have l2:=hn.len
  unfold Z3a.f
  rw[edge_eq h p a hs (by omega) hp.ins,edge_eq h n a hs (by omega) hn.ins,sb,sb,zAt_max]
  rw[keep_eq p _ h.f1 _ h.f3 _ _ _ _ _ hs (by omega) hp.ins hp.nn h3 (by omega),sb,keep_eq n _ h.f1 _ _ _ _ _ _ _ hs (by omega) hn.ins hn.nn (by simp only;omega) (by simp only;omega),sb,g1]
  rfl
 ·rw[g9];exact Z9o p _ i
 ·rw[g10];exact Z9o n _ i
 ·rw[g11];simp only;omega
end Go.Proofs.YtinhldbfifpakaaGreat.PvGL
set_option linter.unusedVariables false
set_option linter.unusedSimpArgs false
namespace Go.Proofs.YtinhldbfifpakaaGreat.PvGL
open Go Go.Pv Go.Pv.GS Go.IntKind
open Classical
def rat (f t:Int):Int:=2 ^ (f-t).toNat
theorem rat_pos (f t:Int):0<rat f t:=Int.pow_pos (by omega)
theorem stp_rat {f t:Int} (h1:t≤f) (h2:f≤8):stp t=stp f*rat f t:=by
 unfold stp rat
 rw[← Int.pow_add];congr 1;omega
def upI (f t i:Int):Int:=-((-i) / rat f t)
theorem upI_spec (f t i:Int):(upI f t i-1)*rat f t<i∧i≤upI f t i*rat f t:=by
 have hp:=rat_pos f t
 unfold upI
 generalize rat f t=r at *
 have e1:=Int.ediv_mul_le (-i) (show r≠0 by omega)
 have e2:=Int.lt_ediv_add_one_mul_self (-i) hp
 generalize (-i) / r=q at *
 rw[Int.add_mul] at e2
 constructor
 ·rw[Int.sub_mul,Int.neg_mul];omega
 ·rw[Int.neg_mul];omega
theorem upI_in {f t i:Int} (hf:Z2z f) (ht:Z2z t) (h:t≤f) (hi:InS f i):InS t (upI f t i):=by
 obtain⟨h3,h4⟩:=upI_spec f t i
 have hst:=stp_rat h hf.2
 have hp:=Z6d f
 have hd:=stp_dvd ht
 have hr:=rat_pos f t
 obtain⟨i1,i2⟩:=hi
 constructor
 ·rw[hst,Int.mul_comm (stp f),← Int.mul_assoc]
  have:=Int.mul_le_mul_of_nonneg_right h4 (Int.le_of_lt hp);omega
 ·
  generalize hQ:262144 / stp t=Q at hd
  have hi3:i*stp f≤Q*rat f t*stp f:=by rw[Int.mul_assoc,Int.mul_comm (rat f t),← hst,hd];exact i2
  have hi4:=Int.le_of_mul_le_mul_right hi3 hp
  have:=Int.lt_of_mul_lt_mul_right (show(upI f t i-1)*rat f t<Q*rat f t by omega) (Int.le_of_lt hr)
  have:=Int.mul_le_mul_of_nonneg_right (show upI f t i≤Q by omega) (Int.le_of_lt (Z6d t))
  omega
theorem to_eq {f t i:Int} (hf:Z2z f) (ht:Z2z t) (h:t≤f) (hi:InS f i):Z56.f f t i=some (upI f t i,0):=by
 have hs:=Z6q hi
 have h1:=hf.1
 have h2:=hf.2
 have h3:=ht.1
 have h4:=ht.2
 unfold Z56.f Z81.f
 rw[Z70 hf,sb,if_neg (by simp),Z70 ht,sb,if_neg (by simp),sb,if_neg (by simp;omega),in_T hf,sb,if_neg (by simp[hi]),chkB (Z67 _).1,sb]
 rw[Zf (n:=f-t) (by omega) (by omega),Z40 (by omega) (by omega),Zf (n:=0-i) (by omega) (by omega)]
 have e:min (f-t).toNat 64=(f-t).toNat:=by omega
 rw[e,Int.fdiv_eq_ediv_of_nonneg _ (Int.le_of_lt (Int.pow_pos (by omega)))]
 have:(0-i) / 2 ^ (f-t).toNat = -upI f t i:=by unfold upI rat;rw[Int.zero_sub];omega
 rw[this]
 have hj:=Z6q (upI_in hf ht h hi)
 rw[Zf (by omega) (by omega)]
 congr 2;omega
def Z8o (f t:Int) (l:List Z3):List Z3:=l.map (fun b=>⟨upI f t b.f0,b.f1⟩)
theorem Zc5 (f t:Int) (l:List Z3):(Z8o f t l).length=l.length:=by simp[Z8o]
theorem Z9i (f t:Int) (l:List Z3):cnt (Z8o f t l)=cnt l:=by simp[cnt,Z8o,Function.comp_def]
theorem down_l0 (l:List Z3) (f t:Int) (hf:Z2z f) (ht:Z2z t) (h:t≤f) (hl:l.length<1000000) (hi:∀ b∈l,InS f b.f0):∀ (suf pre o:List Z3) (i:Int),l=pre++suf→i=(pre.length:Int)→o.length=pre.length →
  Z2e.l0 l f t o i=some (o++Z8o f t suf):=by
 intro suf
 induction suf with
 | nil =>
  intro pre o i h1 hi0 _
  subst h1
  rw[Z2e.l0,if_neg (by simp[hi0])]
  simp[Z8o]
 | cons x suf ih =>
  intro pre o i h1 hi0 ho
  have hx:=hi x (by rw[h1];simp)
  have hlen:(l.length:Int)=pre.length+(suf.length+1):=by rw[h1];simp
  rw[Z2e.l0,if_pos (by simp;omega),Z1q h1 hi0,sb,to_eq hf ht h hx,sb,chkB (by simp;omega),Zf (by omega) (by omega)]
  rw[ih (pre++[x]) _ (i+1) (by simp[h1]) (by simp;omega) (by simp;omega)]
  simp[Z8o]
theorem down_eq (l:List Z3) (f t:Int) (hf:Z2z f) (ht:Z2z t) (h:t≤f) (hl:l.length<1000000) (hi:∀ b∈l,InS f b.f0):Z2e.f l f t=some (Z8o f t l):=by
 unfold Z2e.f
 rw[down_l0 l f t hf ht h hl hi l [] [] 0 rfl rfl rfl];simp
def h0:Z06:=⟨0,0,0,0,0,0,[],[]⟩
theorem Z9p {s z:Int} {l:List Z3} (h:Side s z l):Cs s l:=⟨by have:=h.len;omega,fun b hb=>(h.ok b hb).ins,fun b hb=>(h.ok b hb).pos⟩
theorem cs_down {f t:Int} {l:List Z3} (hf:Z2z f) (ht:Z2z t) (h:t≤f) (hc:Cs f l):Cs t (Z8o f t l) :=
 ⟨by rw[Zc5];exact hc.len,fun b hb=>by
  obtain⟨x,hx,rfl⟩:=List.mem_map.1 hb
  exact upI_in hf ht h (hc.ins x hx),fun b hb=>by
  obtain⟨x,hx,rfl⟩:=List.mem_map.1 hb
  exact hc.pos x hx⟩
structure Cut (a:Z06) (s z:Int) (r:Z06):Prop where
 valid:Z3r r
 fits:Fits r
 kind:r.f0=a.f0
 schema:r.f1=s
 zeroAt:r.f2=z
 count:r.f4=a.f4
 sum:r.f5=a.f5
 tpos:∀ i,tot r.f6 i=if above s z i=true then tot (Z8o a.f1 s a.f6) i else 0
 tneg:∀ i,tot r.f7 i=if above s z i=true then tot (Z8o a.f1 s a.f7) i else 0
theorem hist_ext {a b:Z06} (e0:a.f0=b.f0) (e1:a.f1=b.f1) (e2:a.f2=b.f2) (e3:a.f3=b.f3) (e4:a.f4=b.f4) (e5:a.f5=b.f5) (e6:a.f6=b.f6) (e7:a.f7=b.f7):a=b:=by
 cases a;cases b;simp_all
theorem valid_ext {a b:Z06} (ha:Z3r a) (hb:Z3r b) (e0:a.f0=b.f0) (e1:a.f1=b.f1) (e2:a.f2=b.f2) (e4:a.f4=b.f4) (e5:a.f5=b.f5) (t6:∀ i,tot a.f6 i=tot b.f6 i) (t7:∀ i,tot a.f7 i=tot b.f7 i):a=b:=by
 have q6:=Z5g ha.pos.canon hb.pos.canon t6
 have q7:=Z5g ha.neg.canon hb.neg.canon t7
 have h1:=ha.count
 have h2:=hb.count
 rw[q6,q7] at h1
 exact hist_ext e0 e1 e2 (by omega) e4 e5 q6 q7
theorem Cut.unique {a:Z06} {s z:Int} {r r':Z06} (h:Cut a s z r) (h':Cut a s z r'):r=r' :=
 valid_ext h.valid h'.valid (h.kind.trans h'.kind.symm) (h.schema.trans h'.schema.symm) (h.zeroAt.trans h'.zeroAt.symm) (h.count.trans h'.count.symm) (h.sum.trans h'.sum.symm) (fun i=>(h.tpos i).trans (h'.tpos i).symm) (fun i=>(h.tneg i).trans (h'.tneg i).symm)
theorem Down_eq (a:Z06) (s:Int) (hv:Z3r a) (hf:Fits a) (hs:Z2z s) (hle:s≤a.f1) :
  ∃ r,Z3o.f a s=some (r,0)∧Cut a s (zAt s a.f2 (Z8o a.f1 s a.f6) (Z8o a.f1 s a.f7)) r:=by
 have l1:=hv.pos.len
 have l2:=hv.neg.len
 have h1:=hv.count
 have h2:=hv.total
 obtain⟨r,e,h⟩:=Zcy (⟨a.f0,s,a.f2,a.f3,a.f4,a.f5,a.f6,a.f7⟩:Z06) (Z8o a.f1 s a.f6) (Z8o a.f1 s a.f7) a.f2 hv.kind hs hv.zero hf.zero.1 hf.sum (cs_down hv.schema hs hle (Z9p hv.pos)) (cs_down hv.schema hs hle (Z9p hv.neg))
  (by rw[Zc5];exact l1) (by rw[Zc5];exact l2) (by rw[Z9i,Z9i];exact h2)
 refine⟨r,?_,⟨h.valid,h.fits,h.kind,h.schema,h.zeroAt,by rw[h.count,Z9i,Z9i];exact h1.symm,h.sum,h.tpos,h.tneg⟩⟩
 unfold Z3o.f
 rw[Z70 hs,sb,if_neg (by simp),sb,if_neg (by simp;omega),down_eq a.f6 a.f1 s hv.schema hs hle (by omega) (Z9p hv.pos).ins,down_eq a.f7 a.f1 s hv.schema hs hle (by omega) (Z9p hv.neg).ins,sb,sb,e]
 rfl
theorem clone_eq (a:Z06) (h1:a.f6.length<1000000000) (h2:a.f7.length<1000000000):Z4d.f a=some a:=by
 unfold Z4d.f
 rw[Za0 _ h1,Za0 _ h2];rfl
theorem Z87 (a:Z06) (z:Int) (hv:Z3r a) (hf:Fits a) (hz : -262144<z∧z≤262144) (hlt:a.f2<z) :
  ∃ r,Z2u.f a z=some (r,0)∧Swal a a.f6 a.f7 z r:=by
 obtain⟨r,e,h⟩:=Zcy a a.f6 a.f7 z hv.kind hv.schema (.inr hz) hf.zero.1 hf.sum (Z9p hv.pos) (Z9p hv.neg) hv.pos.len hv.neg.len hv.total
 refine⟨r,?_,h⟩
 unfold Z2u.f
 rw[if_neg (by simp;omega),if_neg (by simp;omega),if_neg (by simp;omega),sb,if_neg (by simp;omega),e];rfl
theorem Z88 (a:Z06) (hv:Z3r a):Z2u.f a a.f2=some (a,0):=by
 have l1:=hv.pos.len
 have l2:=hv.neg.len
 unfold Z2u.f
 rw[if_neg (by simp),if_pos (by simp),clone_eq a (by omega) (by omega)];rfl
theorem Cut.widen {a r r':Z06} {s z z':Int} (h:Cut a s z r) (hz:z≤z') (hw:Swal r r.f6 r.f7 z' r'):Cut a s (zAt s z' r.f6 r.f7) r':=by
 have hle:=zAt_le s z' r.f6 r.f7
 have hc:=h.valid.count
 have key:∀ i (u v:Int),u=(if above s z i=true then v else 0)→(if above s (zAt s z' r.f6 r.f7) i=true then u else 0)=if above s (zAt s z' r.f6 r.f7) i=true then v else 0:=by
  intro i u v hu
  by_cases h1:zAt s z' r.f6 r.f7<i*stp s
  ·simp only[decide_eq_true_eq]
   rw[if_pos h1,if_pos h1,hu];simp only[decide_eq_true_eq];rw[if_pos (by omega)]
  ·simp only[decide_eq_true_eq];rw[if_neg h1,if_neg h1]
 have hs:=h.schema
 refine⟨hw.valid,hw.fits,hw.kind.trans h.kind,hw.schema.trans hs,?_,?_,hw.sum.trans h.sum,fun i => ?_,fun i => ?_⟩
 ·rw[hw.zeroAt,hs]
 ·rw[hw.count,← h.count,hc]
 ·rw[hw.tpos i,hs];exact key i _ _ (h.tpos i)
 ·rw[hw.tneg i,hs];exact key i _ _ (h.tneg i)
theorem Z74 {s a:Int} {l:List Z3}:¬ Z5j s (cg s a) l:=by
 rintro⟨b,hb,h1,h2⟩
 have hp:=Int.le_of_lt (Z6d s)
 unfold cg at *
 have:=Int.lt_of_mul_lt_mul_right h1 hp
 have:=Int.lt_of_mul_lt_mul_right h2 hp
 omega
theorem zAt_no {s a:Int} {p n:List Z3} (h1:¬ Z5j s a p) (h2:¬ Z5j s a n):zAt s a p n=a:=by
 unfold zAt;rw[if_neg (by rintro(h | h)<;>contradiction)]
theorem zAt_or (s a:Int) (p n:List Z3):zAt s a p n=a∧¬ Z5j s a p∧¬ Z5j s a n∨zAt s a p n=cg s a:=by
 unfold zAt
 by_cases h:Z5j s a p∨Z5j s a n
 ·exact .inr (if_pos h)
 ·exact .inl ⟨if_neg h,fun q=>h (.inl q),fun q=>h (.inr q)⟩
end Go.Proofs.YtinhldbfifpakaaGreat.PvGL
set_option linter.unusedVariables false
set_option linter.unusedSimpArgs false
namespace Go.Proofs.YtinhldbfifpakaaGreat.PvGL
open Go Go.Pv Go.Pv.GS Go.IntKind
open Classical
theorem alike_loop (a b p q:Z06) (s zp zq:Int) (hp:Cut a s zp p) (hq:Cut b s zq q) :
  ∃ p' q' z,         Z1u.l0 (p.f0,p.f1,p.f2,p.f3,p.f4,p.f5,p.f6,p.f7,q.f0,q.f1,q.f2,q.f3,q.f4,q.f5,q.f6,q.f7)=some (.inr (p'.f0,p'.f1,p'.f2,p'.f3,p'.f4,p'.f5,p'.f6,p'.f7,q'.f0,q'.f1,q'.f2,q'.f3,q'.f4,q'.f5,q'.f6,q'.f7)) ∧
   Cut a s z p'∧Cut b s z q'∧z=(if zp<zq then zAt s zq p.f6 p.f7 else if zq<zp then zAt s zp q.f6 q.f7 else zp):=by
 have done:∀ (p q:Z06) (z:Int),p.f2=z→q.f2=z→Z1u.l0 (p.f0,p.f1,p.f2,p.f3,p.f4,p.f5,p.f6,p.f7,q.f0,q.f1,q.f2,q.f3,q.f4,q.f5,q.f6,q.f7)=some (.inr (p.f0,p.f1,p.f2,p.f3,p.f4,p.f5,p.f6,p.f7,q.f0,q.f1,q.f2,q.f3,q.f4,q.f5,q.f6,q.f7)):=by
  intro p q z h1 h2
  rw[Z1u.l0]
  (try simp only[])
  rw[if_neg (by simp[h1,h2])]
 have step:∀ (p q p' q':Z06),p.f2≠q.f2→Z2u.f p (if q.f2>p.f2 then q.f2 else p.f2)=some (p',0)→Z2u.f q (if q.f2>p.f2 then q.f2 else p.f2)=some (q',0) →
   Z1u.l0 (p.f0,p.f1,p.f2,p.f3,p.f4,p.f5,p.f6,p.f7,q.f0,q.f1,q.f2,q.f3,q.f4,q.f5,q.f6,q.f7)=Z1u.l0 (p'.f0,p'.f1,p'.f2,p'.f3,p'.f4,p'.f5,p'.f6,p'.f7,q'.f0,q'.f1,q'.f2,q'.f3,q'.f4,q'.f5,q'.f6,q'.f7):=by
  intro p q p' q' hne h1 h2
  conv=>lhs;rw[Z1u.l0]
  (try simp only[])
  rw[if_pos (by simpa using hne),h1,sb,h2,sb,if_neg (by simp)]
 have rng:∀ (u:Z06) (z:Int),Z3r u→z<u.f2→(z = -524288∨(-262144<z∧z≤262144)) → -262144<u.f2∧u.f2≤262144:=by
  intro u z hu hlt hz
  rcases hu.zero with h | h
  ·rcases hz with h' | h'<;>omega
  ·exact h
 by_cases h1:zp<zq
 ·have hz:=rng q zp hq.valid (by rw[hq.zeroAt];exact h1) (hp.zeroAt ▸ hp.valid.zero)
  rw[hq.zeroAt] at hz
  obtain⟨p1,e1,w1⟩:=Z87 p zq hp.valid hp.fits hz (by rw[hp.zeroAt];exact h1)
  have c1:=hp.widen (by omega) w1
  have es:=step p q p1 q (by rw[hp.zeroAt,hq.zeroAt];omega) (by rw[hp.zeroAt,hq.zeroAt,if_pos h1];exact e1) (by rw[hp.zeroAt,hq.zeroAt,if_pos h1];have:=Z88 q hq.valid;rw[hq.zeroAt] at this;exact this)
  rw[es,if_pos h1]
  rcases zAt_or s zq p.f6 p.f7 with ⟨hA,_⟩ | hA
  ·exact⟨p1,q,zq,done p1 q zq (by rw[c1.zeroAt,hA]) hq.zeroAt,hA ▸ c1,hq,hA.symm⟩
  ·by_cases heq:zAt s zq p.f6 p.f7=zq
   ·exact⟨p1,q,zq,done p1 q zq (by rw[c1.zeroAt,heq]) hq.zeroAt,heq ▸ c1,hq,heq.symm⟩
   have hgt:zq<zAt s zq p.f6 p.f7:=by have:=zAt_le s zq p.f6 p.f7;omega
   have hz2:=rng p1 zq c1.valid (by rw[c1.zeroAt];exact hgt) (.inr hz)
   rw[c1.zeroAt] at hz2
   obtain⟨q1,e2,w2⟩:=Z87 q (zAt s zq p.f6 p.f7) hq.valid hq.fits hz2 (by rw[hq.zeroAt];exact hgt)
   have c2:=hq.widen (by omega) w2
   have hno:zAt s (zAt s zq p.f6 p.f7) q.f6 q.f7=zAt s zq p.f6 p.f7:=by rw[hA];exact zAt_no Z74 Z74
   rw[hno] at c2
   have es2:=step p1 q p1 q1 (by rw[c1.zeroAt,hq.zeroAt];omega) (by rw[c1.zeroAt,hq.zeroAt,if_neg (by omega)];have:=Z88 p1 c1.valid;rw[c1.zeroAt] at this;exact this) (by rw[c1.zeroAt,hq.zeroAt,if_neg (by omega)];exact e2)
   rw[es2]
   exact⟨p1,q1,_,done p1 q1 _ c1.zeroAt c2.zeroAt,c1,c2,rfl⟩
 ·by_cases h2:zq<zp
  ·have hz:=rng p zq hp.valid (by rw[hp.zeroAt];exact h2) (hq.zeroAt ▸ hq.valid.zero)
   rw[hp.zeroAt] at hz
   obtain⟨q1,e1,w1⟩:=Z87 q zp hq.valid hq.fits hz (by rw[hq.zeroAt];exact h2)
   have c1:=hq.widen (by omega) w1
   have es:=step p q p q1 (by rw[hp.zeroAt,hq.zeroAt];omega) (by rw[hp.zeroAt,hq.zeroAt,if_neg h1];have:=Z88 p hp.valid;rw[hp.zeroAt] at this;exact this) (by rw[hp.zeroAt,hq.zeroAt,if_neg h1];exact e1)
   rw[es,if_neg h1,if_pos h2]
   rcases zAt_or s zp q.f6 q.f7 with ⟨hA,_⟩ | hA
   ·exact⟨p,q1,zp,done p q1 zp hp.zeroAt (by rw[c1.zeroAt,hA]),hp,hA ▸ c1,hA.symm⟩
   ·by_cases heq:zAt s zp q.f6 q.f7=zp
    ·exact⟨p,q1,zp,done p q1 zp hp.zeroAt (by rw[c1.zeroAt,heq]),hp,heq ▸ c1,heq.symm⟩
    have hgt:zp<zAt s zp q.f6 q.f7:=by have:=zAt_le s zp q.f6 q.f7;omega
    have hz2:=rng q1 zp c1.valid (by rw[c1.zeroAt];exact hgt) (.inr hz)
    rw[c1.zeroAt] at hz2
    obtain⟨p1,e2,w2⟩:=Z87 p (zAt s zp q.f6 q.f7) hp.valid hp.fits hz2 (by rw[hp.zeroAt];exact hgt)
    have c2:=hp.widen (by omega) w2
    have hno:zAt s (zAt s zp q.f6 q.f7) p.f6 p.f7=zAt s zp q.f6 q.f7:=by rw[hA];exact zAt_no Z74 Z74
    rw[hno] at c2
    have es2:=step p q1 p1 q1 (by rw[c1.zeroAt,hp.zeroAt];omega) (by rw[c1.zeroAt,hp.zeroAt,if_pos (by omega)];exact e2) (by rw[c1.zeroAt,hp.zeroAt,if_pos (by omega)];have:=Z88 q1 c1.valid;rw[c1.zeroAt] at this;exact this)
    rw[es2]
    exact⟨p1,q1,_,done p1 q1 _ c2.zeroAt c1.zeroAt,c2,c1,rfl⟩
  ·have:zp=zq:=by omega
   subst this
   rw[if_neg h1,if_neg h2]
   exact⟨p,q,zp,done p q zp hp.zeroAt hq.zeroAt,hp,hq,rfl⟩
theorem Alike_eq (a b:Z06) (ha:Z3r a) (fa:Fits a) (hb:Z3r b) (fb:Fits b) :
  ∃ p0 q0 p q s z,s=(if b.f1<a.f1 then b.f1 else a.f1) ∧         Z3o.f a s=some (p0,0) ∧         Z3o.f b s=some (q0,0)∧Cut a s p0.f2 p0∧Cut b s q0.f2 q0 ∧          Z1u.f a b=some (p,q,0)∧Cut a s z p∧Cut b s z q ∧
   z=(if p0.f2<q0.f2 then zAt s q0.f2 p0.f6 p0.f7 else if q0.f2<p0.f2 then zAt s p0.f2 q0.f6 q0.f7 else p0.f2):=by
 have hs:Z2z (if b.f1<a.f1 then b.f1 else a.f1):=by split;exact hb.schema;exact ha.schema
 obtain⟨p0,e1,c1⟩:=Down_eq a _ ha fa hs (by split<;>omega)
 obtain⟨q0,e2,c2⟩:=Down_eq b _ hb fb hs (by split<;>omega)
 have c1':=c1
 have c2':=c2
 rw[← c1.zeroAt] at c1'
 rw[← c2.zeroAt] at c2'
 obtain⟨p,q,z,el,cp,cq,hz⟩:=alike_loop a b p0 q0 _ _ _ c1' c2'
 refine⟨p0,q0,p,q,_,z,rfl,e1,e2,c1',c2',?_,cp,cq,hz⟩
 unfold Z1u.f
 rw[e1,sb,e2,sb,if_neg (by simp)]
 simp only[]
 rw[el]
 rfl
end Go.Proofs.YtinhldbfifpakaaGreat.PvGL
set_option linter.unusedVariables false
set_option linter.unusedSimpArgs false
namespace Go.Proofs.YtinhldbfifpakaaGreat.PvGL
open Go Go.Pv Go.Pv.GS Go.IntKind
open Classical
def Cand (hv:Bool) (last:Int) (b:Z3):Prop:=hv=false∨last<b.f0
structure Least (hv:Bool) (last:Int) (l:List Z3) (fd:Bool) (nx:Int):Prop where
 none:fd=false→∀ b∈l,¬ Cand hv last b
 some:fd=true→(∃ b∈l,Cand hv last b∧b.f0=nx)∧∀ b∈l,Cand hv last b→nx≤b.f0
end Go.Proofs.YtinhldbfifpakaaGreat.PvGL
set_option linter.unusedVariables false
set_option linter.unusedSimpArgs false
namespace Go.Proofs.YtinhldbfifpakaaGreat.PvGL
open Go Go.Pv Go.Pv.GS Go.IntKind
theorem subint {a b:Int} (ha:I64 a) (hb:I64 b):Z4b.f a b=some (if I64 (a-b) then(a-b,0) else(0,5)):=by
 unfold Z4b.f
 rw[Z5t]
 by_cases hI:I64 (a-b)
 ·rw[if_pos hI]
  have e:(a-b+9223372036854775808) % 18446744073709551616-9223372036854775808=a-b:=by omega
  rw[e,if_neg]
  by_cases h:a<b
  ·simp[h]<;>omega
  ·simp[h];omega
 ·rw[if_neg hI,if_pos]
  by_cases h:a<b
  ·simp[h];omega
  ·simp[h];omega
theorem num_sub {a b:Int} (ha:U64 a) (hb:U64 b):Z60.f a b=some (if b≤a then(a-b,0) else(0,5)):=by
 unfold Z60.f
 by_cases h:b≤a
 ·rw[if_neg (by simp;omega),if_pos h,Z40 (by omega) (by omega)]
 ·rw[if_pos (by simp;omega),if_neg h]
end Go.Proofs.YtinhldbfifpakaaGreat.PvGL
set_option linter.unusedVariables false
set_option linter.unusedSimpArgs false
namespace Go.Proofs.YtinhldbfifpakaaGreat.PvGL
open Go Go.Pv Go.Pv.GS Go.IntKind
open Classical
structure Pair (p q:Z06):Prop where
 vp:Z3r p
 vq:Z3r q
 fp:Fits p
 fq:Fits q
 schema:p.f1=q.f1
 zeroAt:p.f2=q.f2
structure Sumd (p q r:Z06):Prop where
 valid:Z3r r
 fits:Fits r
 kind:r.f0=if q.f0>p.f0 then q.f0 else p.f0
 schema:r.f1=p.f1
 zeroAt:r.f2=p.f2
 zero:r.f3=p.f3+q.f3
 count:r.f4=p.f4+q.f4
 sum:r.f5=p.f5+q.f5
 tpos:∀ i,tot r.f6 i=tot p.f6 i+tot q.f6 i
 tneg:∀ i,tot r.f7 i=tot p.f7 i+tot q.f7 i
end Go.Proofs.YtinhldbfifpakaaGreat.PvGL
set_option linter.unusedVariables false
set_option linter.unusedSimpArgs false
namespace Go.Proofs.YtinhldbfifpakaaGreat.PvGL
open Go Go.Pv Go.Pv.GS Go.IntKind
open Classical
def Cov (a b:List Z3):Prop:=∀ i,tot b i≤tot a i
theorem less_l1 (a0:List Z3) (x:Z3) (b o:List Z3) (i:Int):Z1c.l1 a0 x b o i ()=some (match b with
  | [] =>.inr ()
  | y::_=>if y.f0<x.f0 then .inl ([],false) else .inr ()):=by
 unfold Z1c.l1
 cases b with
 | nil=>rw[if_neg (by simp),sb,if_neg (by simp)]
 | cons y b =>
  rw[if_pos (by simp),show at? (y::b) 0=some y from rfl,sb,sb]
  by_cases h:y.f0<x.f0
  ·rw[if_pos (by simpa using h)];simp[h]
  ·rw[if_neg (by simpa using h)];simp[h]
structure Left (s z:Int) (o:List Z3):Prop where
 ok:∀ b∈o,InS s b.f0∧0≤b.f1∧z≤(b.f0-1)*stp s
 u64:∀ b∈o,U64 b.f1
theorem less_l0 (s z:Int) (a:List Z3) (hl:a.length<1000000):∀ (suf pre b o:List Z3) (i:Int),a=pre++suf→i=(pre.length:Int)→Z4p suf→Z4p b→(∀ y∈suf,BOk s z y∧U64 y.f1)→(∀ y∈b,U64 y.f1)→b.length<1000000→o.length≤pre.length →
  (∃ b' o',Z1c.l0 a b o i=some (.inr (b',o++o'))∧(b'=[]↔Cov suf b)∧(b'=[]→∀ i,tot o' i=tot suf i-tot b i)∧Left s z o'∧o'.length≤suf.length) ∨
  (Z1c.l0 a b o i=some (.inl ([],false))∧¬ Cov suf b):=by
 intro suf
 induction suf with
 | nil =>
  intro pre b o i h1 hi _ hb _ _ _ _
  rw[List.append_nil] at h1;subst h1
  rw[Z1c.l0,if_neg (by simp[hi])]
  refine .inl ⟨b,[],by simp,?_,fun h=>by subst h;simp[tot],⟨by simp,by simp⟩,by simp⟩
  constructor
  ·intro h;subst h;intro i;simp[tot]
  ·intro h
   cases b with
   | nil=>rfl
   | cons y b =>
    have h1:=h y.f0
    rw[hb.tot_head] at h1
    have:=hb.pos y (by simp)
    simp[tot] at h1;omega
 | cons x suf ih =>
  intro pre b o i h1 hi hs hb hxs hbs hbl ho
  have hlen:(a.length:Int)=pre.length+(suf.length+1):=by rw[h1];simp
  have hx:=hxs x (by simp)
  have hxp:=hs.pos x (by simp)
  have e1:a=(pre++[x])++suf:=by simp[h1]
  have e2:i+1=((pre++[x]).length:Int):=by simp;omega
  have hsx:=hs.tail
  have hxlow:∀ i,i≤x.f0→tot suf i=0:=fun i hi=>tot_zero (fun c hc=>by have:=(List.pairwise_cons.1 hs.up).1 c hc;omega)
  rw[Z1c.l0,if_pos (by simp;omega),Z1q h1 hi,sb,less_l1,sb]
  have keep:(∀ i,tot b i=if i=x.f0 then 0 else tot b i)→(((chk ((o.length+[(⟨x.f0,x.f1⟩:Z3)].length)*16≤140737488355328))>>=fun _=>Z1c.l0 a b (o++[(⟨x.f0,x.f1⟩:Z3)]) (i64.wrap (i+1)))=Z1c.l0 a b (o++[x]) (i+1)) ∧
    ((∃ b' o',         Z1c.l0 a b (o ++ [x]) (i + 1) = some (.inr (b', o ++ o')) ∧ (b' = [] ↔ Cov (x :: suf) b) ∧ (b' = [] → ∀ i, tot o' i = tot (x :: suf) i - tot b i) ∧ Left s z o' ∧ o'.length ≤ (x :: suf).length) ∨
      (Z1c.l0 a b (o++[x]) (i+1)=some (.inl ([],false))∧¬ Cov (x::suf) b)):=by
   intro hb0
   have hcov:Cov (x::suf) b↔Cov suf b:=by
    constructor
    ·intro h i
     have:=h i
     by_cases hi:i=x.f0
     ·have h0:=hb0 i;rw[if_pos hi] at h0
      have:=hxlow i (by omega);omega
     ·rw[tot,if_neg (fun e=>hi e.symm)] at this;omega
    ·intro h i
     have:=h i
     rw[tot];split<;>omega
   refine⟨by rw[chkB (by simp;omega),Zf (by omega) (by omega)],?_⟩
   rcases ih (pre++[x]) b (o++[x]) (i+1) e1 e2 hsx hb (fun y hy=>hxs y (by simp[hy])) hbs hbl (by simp;omega) with ⟨b',o',g1,g2,g3,g4,g5⟩ | ⟨g1,g2⟩
   ·refine .inl ⟨b',x::o',by rw[g1];simp,by rw[hcov];exact g2,fun h i=>by rw[tot,tot,g3 h i];omega,⟨fun y hy => ?_,fun y hy => ?_⟩,by simp;omega⟩
    ·rcases List.mem_cons.1 hy with rfl | hy
     ·exact⟨hx.1.ins,Int.le_of_lt hx.1.pos,hx.1.low⟩
     ·exact g4.ok y hy
    ·rcases List.mem_cons.1 hy with rfl | hy
     ·exact hx.2
     ·exact g4.u64 y hy
   ·exact .inr ⟨g1,by rw[hcov];exact g2⟩
  cases b with
  | nil =>
   obtain⟨k1,k2⟩:=keep (fun i=>by simp[tot])
   simp only[]
   rw[if_neg (by simp),sb,if_neg (by simp),sb]
   simp only[]
   rw[k1];exact k2
  | cons y b =>
   have hyp:=hb.pos y (by simp)
   simp only[]
   by_cases h:y.f0<x.f0
   ·rw[if_pos h]
    refine .inr ⟨rfl,fun hc => ?_⟩
    have:=hc y.f0
    rw[hb.tot_head,hs.tot_low h] at this;omega
   rw[if_neg h]
   simp only[]
   rw[if_pos (by simp),show at? (y::b) 0=some y from rfl,sb,sb]
   by_cases he:y.f0=x.f0
   case neg =>
    obtain⟨k1,k2⟩:=keep (fun i=>by
     by_cases hi:i=x.f0
     ·rw[if_pos hi,hb.tot_low (by omega)]
     ·rw[if_neg hi])
    rw[if_neg (by simpa using he),sb]
    simp only[]
    rw[k1];exact k2
   rw[if_pos (by simpa using he),sb]
   by_cases hgt:y.f1>x.f1
   ·rw[if_pos (by simpa using hgt),sb]
    refine .inr ⟨rfl,fun hc => ?_⟩
    have h2:=hc y.f0
    rw[hb.tot_head] at h2
    rw[he,hs.tot_head] at h2;omega
   rw[if_neg (by simpa using hgt),chkB (by simp;omega),sb]
   simp only[]
   have hdrop:(List.drop (Int.toNat (1:Int)) (y::b)).take (Int.toNat (((y::b).length:Int))-Int.toNat (1:Int))=b:=by
    simp
   rw[hdrop,Z40 (by omega) (by have:=hx.2;omega),chkB (by simp;omega),Zf (by omega) (by omega)]
   have hblow:∀ i,i≤y.f0→tot b i=0:=fun i hi=>tot_zero (fun c hc=>by have:=(List.pairwise_cons.1 hb.up).1 c hc;omega)
   have hcov:Cov (x::suf) (y::b)↔Cov suf b:=by
    constructor
    ·intro h i
     have:=h i
     simp only[tot] at this
     by_cases hi:i=x.f0
     ·rw[hblow i (by omega),hxlow i (by omega)];omega
     ·rw[if_neg (by omega),if_neg (fun e=>hi e.symm)] at this;omega
    ·intro h i
     have:=h i
     simp only[tot]
     by_cases hi:i=x.f0
     ·rw[if_pos (by omega),if_pos hi.symm,hblow i (by omega),hxlow i (by omega)];omega
     ·rw[if_neg (by omega),if_neg (fun e=>hi e.symm)];omega
   rcases ih (pre++[x]) b (o++[⟨x.f0,x.f1-y.f1⟩]) (i+1) e1 e2 hsx hb.tail (fun y hy=>hxs y (by simp[hy])) (fun c hc=>hbs c (by simp[hc])) (by simp at hbl;omega) (by simp;omega) with ⟨b',o',g1,g2,g3,g4,g5⟩ | ⟨g1,g2⟩
   ·refine .inl ⟨b',⟨x.f0,x.f1-y.f1⟩::o',by rw[g1];simp,by rw[hcov];exact g2,fun h i => ?_,⟨fun c hc => ?_,fun c hc => ?_⟩,by simp;omega⟩
    ·simp only[tot]
     rw[g3 h i]
     by_cases hi:x.f0=i
     ·rw[if_pos hi,if_pos hi,if_pos (by omega)];omega
     ·rw[if_neg hi,if_neg hi,if_neg (by omega)];omega
    ·rcases List.mem_cons.1 hc with rfl | hc
     ·exact⟨hx.1.ins,by simp;omega,hx.1.low⟩
     ·exact g4.ok c hc
    ·rcases List.mem_cons.1 hc with rfl | hc
     ·have:=hx.2;constructor<;>simp<;>omega
     ·exact g4.u64 c hc
   ·exact .inr ⟨g1,by rw[hcov];exact g2⟩
theorem less_eq (s z:Int) (a b:List Z3) (ha:Z4p a) (hb:Z4p b) (hxs:∀ y∈a,BOk s z y∧U64 y.f1) (hbs:∀ y∈b,U64 y.f1) (hl:a.length<1000000) (hbl:b.length<1000000) :
  ∃ o ok,Z1c.f a b=some (o,ok)∧(ok=true↔Cov a b)∧(ok=true→∀ i,tot o i=tot a i-tot b i)∧(ok=true→Left s z o)∧o.length≤a.length:=by
 unfold Z1c.f
 rcases less_l0 s z a hl a [] b [] 0 rfl rfl ha hb hxs hbs hbl (Nat.le_refl _) with ⟨b',o',g1,g2,g3,g4,g5⟩ | ⟨g1,g2⟩
 ·rw[g1,sb]
  have hok:((b'.length:Int)==(0:Int))=true↔b'=[]:=by simp
  exact⟨o',_,by simp,by rw[hok,g2],fun h=>g3 (hok.1 h),fun _=>g4,g5⟩
 ·rw[g1,sb]
  exact⟨[],false,rfl,by simp[g2],by simp,by simp,by simp⟩
structure Lessd (p q r:Z06):Prop where
 valid:Z3r r
 fits:Fits r
 kind:r.f0=p.f0
 schema:r.f1=p.f1
 zeroAt:r.f2=p.f2
 zero:r.f3=p.f3-q.f3
 count:r.f4=p.f4-q.f4
 sum:r.f5=p.f5-q.f5
 tpos:∀ i,tot r.f6 i=tot p.f6 i-tot q.f6 i
 tneg:∀ i,tot r.f7 i=tot p.f7 i-tot q.f7 i
def Covs (p q:Z06):Prop:=Cov p.f6 q.f6∧Cov p.f7 q.f7∧q.f3≤p.f3
end Go.Proofs.YtinhldbfifpakaaGreat.PvGL
set_option linter.unusedVariables false
set_option linter.unusedSimpArgs false
namespace Go.Proofs.YtinhldbfifpakaaGreat.PvGL
open Go Go.Pv Go.Pv.GS Go.IntKind
theorem Zcf (h:Z06) (hf:Fits h):∃ r,Z0q.f h=some r∧(r=0↔Z3r h):=by
 by_cases hsz:h.f6.length≤512∧h.f7.length≤512
 ·exact Zce h hf (by omega) (by omega)
 have hnv:¬ Z3r h:=fun v=>hsz ⟨v.pos.len,v.neg.len⟩
 suffices q:∃ r,Z0q.f h=some r∧r≠0 by
  obtain⟨r,e,hr⟩:=q
  exact⟨r,e,fun h=>absurd h hr,fun v=>absurd v hnv⟩
 unfold Z0q.f
 have hk:((if(h.f0 != (0:Int))=true then(some (h.f0 != (1:Int))) else(some false)):Option (Bool))=some (!decide (h.f0=0∨h.f0=1)):=by
  by_cases h1:h.f0=0
  ·simp[h1]
  ·by_cases h2:h.f0=1<;>simp[h1,h2]
 rw[hk,sb]
 by_cases c1:h.f0=0∨h.f0=1
 case neg=>rw[if_pos (by simpa using c1)];exact⟨_,rfl,by omega⟩
 rw[if_neg (by rw[decide_eq_true c1];decide)]
 by_cases c2:Z2z h.f1
 case neg=>rw[right_F c2,sb,if_pos (by simp)];exact⟨_,rfl,by omega⟩
 rw[Z70 c2,sb,if_neg (by simp)]
 obtain⟨z,hz⟩:∃ z:Bool,((if(h.f2 != (-524288))=true then(if(decide (h.f2≤(-262144)))=true then(some true) else(some (decide (h.f2>(262144:Int))))) else(some false)):Option (Bool))=some z:=by
  repeat' split
  all_goals exact⟨_,rfl⟩
 rw[hz,sb]
 cases z with
 | true=>rw[if_pos rfl];exact⟨_,rfl,by omega⟩
 | false =>
  rw[if_neg (by simp),Z8p]
  by_cases h6:h.f6.length≤512
  ·obtain⟨r1,e1,i1⟩:=Z8r         h h.f6 c2 (by omega) (fun b hb=>(hf.pos b hb).2)
   rw[e1,sb]
   by_cases d1:r1=0
   case neg=>rw[if_pos (by simpa using d1),sb];exact⟨_,rfl,d1⟩
   have h7:¬ h.f7.length≤512:=fun q=>hsz ⟨h6,q⟩
   have e2:Z0t.f h h.f7=some 9:=by unfold Z0t.f;rw[if_pos (by simp;omega)]
   rw[if_neg (by simpa using d1),e2,sb,if_pos (by simp),sb];exact⟨_,rfl,by omega⟩
  ·have e1 :            Z0t.f h h.f6=some 9:=by unfold            Z0t.f;rw[if_pos (by simp;omega)]
   rw[e1,sb,if_pos (by simp),sb];exact⟨_,rfl,by omega⟩
end Go.Proofs.YtinhldbfifpakaaGreat.PvGL
set_option linter.unusedVariables false
set_option linter.unusedSimpArgs false
namespace Go.Proofs.YtinhldbfifpakaaGreat.PvGL
open Go Go.Pv Go.Pv.GS Go.IntKind
open Classical
theorem Alike_pairP (a b:Z06) (ha:Z3r a) (fa:Fits a) (hb:Z3r b) (fb:Fits b) :
  ∃ p q s z,Z1u.f a b=some (p,q,0)∧Cut a s z p∧Cut b s z q∧Pair p q:=by
 obtain⟨p0,q0,p,q,s,z,_,_,_,_,_,e,cp,cq,_⟩:=Alike_eq a b ha fa hb fb
 exact⟨p,q,s,z,e,cp,cq,cp.valid,cq.valid,cp.fits,cq.fits,cp.schema.trans cq.schema.symm,cp.zeroAt.trans cq.zeroAt.symm⟩
theorem Sub_casesP (a b p q:Z06) (s z:Int) (fa:Fits a) (fb:Fits b) (he:Z1u.f a b=some (p,q,0)) (cp:Cut a s z p) (cq:Cut b s z q) (hp:Pair p q) :
  Z3k.f a b=some (h0,21)∨Z3k.f a b=some (h0,5)∨(∃ r,Z3k.f a b=some (r,0)∧Lessd p q r):=by
 have a1:=hp.vp.pos.len
 have a2:=hp.vp.neg.len
 have a3:=hp.vq.pos.len
 have a4:=hp.vq.neg.len
 have c1:=hp.vp.count
 have c2:=hp.vq.count
 have hU:=hp.fp.count
 have z1:=hp.fp.zero
 have z2:=hp.fq.zero
 have hSI:=subint fa.sum fb.sum
 obtain⟨o6,k6,e6,i6,t6,L6,m6⟩:=less_eq p.f1 p.f2 p.f6 q.f6 hp.vp.pos.canon hp.vq.pos.canon (fun y hy=>⟨hp.vp.pos.ok y hy,(hp.fp.pos y hy).2⟩) (fun y hy=>(hp.fq.pos y hy).2) (by omega) (by omega)
 obtain⟨o7,k7,e7,i7,t7,L7,m7⟩:=less_eq p.f1 p.f2 p.f7 q.f7 hp.vp.neg.canon hp.vq.neg.canon (fun y hy=>⟨hp.vp.neg.ok y hy,(hp.fp.neg y hy).2⟩) (fun y hy=>(hp.fq.neg y hy).2) (by omega) (by omega)
 have hzs:=num_sub z1 z2
 have hcond:((if(!k6)=true then(some true) else(if(!k7)=true then(some true) else(some (((if q.f3≤p.f3 then((p.f3-q.f3,0):Int×Int) else(0,5)).2 != (0:Int)))))):Option (Bool))=some (!decide (Covs p q)):=by
  unfold Covs
  cases h6:k6 with
  | false => have : ¬ Cov p.f6 q.f6 := by rw [← i6, h6]; simp
             simp[this]
  | true =>
   have h6c:Cov p.f6 q.f6:=i6.1 h6
   cases h7:k7 with
   | false => have : ¬ Cov p.f7 q.f7 := by rw [← i7, h7]; simp
              simp[this]
   | true =>
    have h7c:Cov p.f7 q.f7:=i7.1 h7
    by_cases h3:q.f3≤p.f3<;>simp[h6c,h7c,h3]
 by_cases hcv:Covs p q
 case neg =>
  refine .inl ?_
  ·unfold        Z3k.f
   rw[hSI,sb,he,sb,if_neg (by simp)]
   dsimp only
   rw[e6,e7,hzs,sb,sb,sb,hcond,sb,if_pos (by simp[hcv])];rfl
 by_cases hI:I64 (a.f5-b.f5)
 case neg =>
  refine .inr (.inl ?_)
  ·unfold        Z3k.f
   rw[hSI,sb,he,sb,if_neg (by simp)]
   dsimp only
   rw[e6,e7,hzs,sb,sb,sb,hcond,sb,if_neg (by simp[hcv]),if_neg hI,if_pos (by simp)];rfl
 obtain⟨h6,h7,h3⟩:=hcv
 have T6:=t6 (i6.2 h6)
 have T7:=t7 (i7.2 h7)
 have M6:=L6 (i6.2 h6)
 have M7:=L7 (i7.2 h7)
 have q6:cnt o6=cnt p.f6-cnt q.f6:=by
  have h:=Zcc (l:=o6) (l':=p.f6++negl q.f6) (fun i=>by rw[T6,Z3s,tot_negl];omega)
  rw[h,Zde,Z83 (negl q.f6),Zb4,← Z83];omega
 have q7:cnt o7=cnt p.f7-cnt q.f7:=by
  have h:=Zcc (l:=o7) (l':=p.f7++negl q.f7) (fun i=>by rw[T7,Z3s,tot_negl];omega)
  rw[h,Zde,Z83 (negl q.f7),Zb4,← Z83];omega
 have n6:=Z2b (l:=o6) (fun b hb=>(M6.ok b hb).2.1)
 have n7:=Z2b (l:=o7) (fun b hb=>(M7.ok b hb).2.1)
 have hn1:=Z2b hp.vq.pos.canon.nn
 have hn2:=Z2b hp.vq.neg.canon.nn
 obtain⟨r,e,v,f,e0,e1,e2,e3,e5,x6,x7,e4⟩:=Zd3 (⟨p.f0,p.f1,p.f2,p.f3-q.f3,p.f4,a.f5-b.f5,p.f6,p.f7⟩:Z06) o6 o7 hp.vp.kind hp.vp.schema hp.vp.zero (by simp only;omega) hI ⟨by omega,M6.ok⟩ ⟨by omega,M7.ok⟩ (by simp only;omega) (fun o ho hto=>by
  rcases hto with hto | hto
  ·exact Nat.le_trans hto.2 (by omega)
  ·exact Nat.le_trans hto.2 (by omega))
 refine .inr (.inr ⟨r,?_,⟨v,f,e0,e1,e2,e3,by rw[e4,q6,q7];simp only;omega,by rw[e5,cp.sum,cq.sum],fun i=>by rw[x6,T6],fun i=>by rw[x7,T7]⟩⟩)
 ·unfold        Z3k.f
  rw[hSI,sb,he,sb,if_neg (by simp)]
  dsimp only
  rw[e6,e7,hzs,sb,sb,sb,hcond,sb,if_neg (by simp[Covs,h6,h7,h3]),if_pos hI,if_neg (by simp),if_pos h3]
  dsimp only
  rw[e];rfl
theorem sub_anyP (x y:Z06) (vx:Z3r x) (fx:Fits x) (vy:Z3r y) (fy:Fits y):∃ r e,Z3k.f x y=some (r,e)∧((e=0∧Z3r r∧Fits r)∨(r=h0∧(e=21∨e=5))):=by
 obtain⟨p,q,s,z,e,cp,cq,hp⟩:=Alike_pairP x y vx fx vy fy
 rcases Sub_casesP x y p q s z fx fy e cp cq hp with h1 | h1 | ⟨r,h1,h3⟩
 ·exact⟨_,_,h1,.inr ⟨rfl,.inl rfl⟩⟩
 ·exact⟨_,_,h1,.inr ⟨rfl,.inr rfl⟩⟩
 ·exact⟨_,_,h1,.inl ⟨rfl,h3.valid,h3.fits⟩⟩
noncomputable def gap (x y:Z06):Z06:=match Z3k.f y x with
 | some (d,e)=>if e=21 then y else d
 | none=>y
end Go.Proofs.YtinhldbfifpakaaGreat.PvGL
set_option linter.unusedVariables false
set_option linter.unusedSimpArgs false
set_option maxRecDepth 10000
namespace Go.Proofs.YtinhldbfifpakaaGreat.PvGL
open Go Go.Pv Go.Pv.GS Go.IntKind
def sideI (k:Int) (h:Z06):List Z3:=if k=0 then h.f6 else h.f7
def allI (k:Int) (l:List Ze):List Int:=l.foldl (fun u s=>uni u ((sideI k s.f1).map (·.f0))) []
theorem Z63 (k:Int) (l:List Ze) (s:Ze):allI k (l++[s])=uni (allI k l) ((sideI k s.f1).map (·.f0)):=by simp[allI,List.foldl_append]
theorem side_of {h:Z06} (v:Z3r h) (k:Int):Side h.f1 h.f2 (sideI k h):=by unfold sideI;split;exact v.pos;exact v.neg
theorem side_ids {h:Z06} (v:Z3r h) (k:Int):Ids ((sideI k h).map (·.f0)):=by
 have s:=side_of v k
 refine⟨List.pairwise_map.2 s.up,fun i hi => ?_⟩
 obtain⟨y,hy,rfl⟩:=List.mem_map.1 hi
 have:=Z6q (s.ok y hy).ins;omega
theorem Zax {α:Type} {P:List α→Prop} (h0:P []) (h1:∀ l x,P l→P (l++[x])):∀ l,P l:=by
 intro l
 rcases List.eq_nil_or_concat l with rfl | ⟨l',x,rfl⟩
 ·exact h0
 ·rw[List.concat_eq_append];exact h1 l' x (Zax h0 h1 l')
termination_by l=>l.length
decreasing_by subst l;simp
theorem Z86 (k:Int) (l:List Ze):(∀ s∈l,Z3r s.f1)→Ids (allI k l):=by
 induction l using Zax with
 | h0=>intro _;exact⟨List.Pairwise.nil,by simp[allI]⟩
 | h1 l x ih =>
  intro h
  have i1:=ih (fun s hs=>h s (by simp[hs]))
  have i2:=side_ids (h x (by simp)) k
  rw[Z63]
  exact⟨uni_inc _ _ i1.1 i2.1,fun i hi=>by rcases(Z9v i _ _).1 hi with q | q;exact i1.2 i q;exact i2.2 i q⟩
theorem Zb3 (k:Int) (l:List Ze):(∀ s∈l,Z3r s.f1)→(allI k l).length≤512*l.length:=by
 induction l using Zax with
 | h0=>intro _;simp[allI]
 | h1 l x ih =>
  intro h
  have i1:=ih (fun s hs=>h s (by simp[hs]))
  have i2:=(side_of (h x (by simp)) k).len
  have:=uni_len (allI k l) ((sideI k x.f1).map (·.f0))
  rw[Z63]
  simp only[List.length_map,List.length_append,List.length_singleton] at *;omega
theorem allI_mem (k:Int) (i:Int) (l:List Ze):i∈allI k l↔∃ s∈l,i∈(sideI k s.f1).map (·.f0):=by
 induction l using Zax with
 | h0=>simp[allI]
 | h1 l x ih =>
  rw[Z63,Z9v,ih]
  constructor
  ·rintro(⟨s,hs,h⟩ | h)
   ·exact⟨s,by simp[hs],h⟩
   ·exact⟨x,by simp,h⟩
  ·rintro⟨s,hs,h⟩
   rcases List.mem_append.1 hs with hs | hs
   ·exact .inl ⟨s,hs,h⟩
   ·simp at hs;subst hs;exact .inr h
theorem lays_l0 (l:List Ze) (hl:l.length≤1000) (hv:∀ s∈l,Z3r s.f1):∀ (suf pre:List Ze) (i:Int),l=pre++suf→i=(pre.length:Int) →
  Z1e.l0 l (lay (allI 0 pre)).f0 (lay (allI 0 pre)).f1 (lay (allI 1 pre)).f0 (lay (allI 1 pre)).f1 i=some ((lay (allI 0 l)).f0,(lay (allI 0 l)).f1,(lay (allI 1 l)).f0,(lay (allI 1 l)).f1):=by
 intro suf
 induction suf with
 | nil=>intro pre i h1 hi;rw[List.append_nil] at h1;subst h1;rw[Z1e.l0,if_neg (by simp[hi])]
 | cons s suf ih =>
  intro pre i h1 hi
  have hlen:l.length=pre.length+(suf.length+1):=by rw[h1];simp
  have vs:=hv s (by rw[h1];simp)
  have hp:∀ x∈pre,Z3r x.f1:=fun x hx=>hv x (by rw[h1];simp[hx])
  have a0:=Z86 0 pre hp
  have a1:=Z86 1 pre hp
  have n0:=Zb3 0 pre hp
  have n1:=Zb3 1 pre hp
  have s0:=side_ids vs 0
  have s1:=side_ids vs 1
  have m0:=vs.pos.len
  have m1:=vs.neg.len
  have O0:=of_eq s.f1.f6 (by omega) s0.sm
  have O1:=of_eq s.f1.f7 (by omega) s1.sm
  have J0:Z23.f ⟨(lay (allI 0 pre)).f0,(lay (allI 0 pre)).f1⟩ (lay (s.f1.f6.map (·.f0)))=some (lay (allI 0 (pre++[s]))):=by
   rw[Z63];exact join_eq a0.sm s0.sm (by simp[sideI];omega)
  have J1:Z23.f ⟨(lay (allI 1 pre)).f0,(lay (allI 1 pre)).f1⟩ (lay (s.f1.f7.map (·.f0)))=some (lay (allI 1 (pre++[s]))):=by
   rw[Z63];exact join_eq a1.sm s1.sm (by simp[sideI];omega)
  rw[Z1e.l0,if_pos (by simp;omega),Z1q h1 hi,sb,O0,sb,J0,sb,O1,sb,J1,sb,Zf (by omega) (by omega)]
  exact ih (pre++[s]) (i+1) (by simp[h1]) (by simp;omega)
theorem lays_eq (l:List Ze) (hl:l.length≤1000) (hv:∀ s∈l,Z3r s.f1):Z1e.f l=some (lay (allI 0 l),lay (allI 1 l)):=by
 unfold Z1e.f
 rw[show Z1e.l0 l 0 [] 0 [] 0=_ from lays_l0 l hl hv l [] 0 rfl rfl,sb]
def Z27 (h:Z06) (P N:List Int):List Int:=([h.f3,u64.wrap h.f5]++P.map (tot h.f6))++N.map (tot h.f7)
theorem Z4m (h:Z06) (P N:List Int):(Z27 h P N).length=2+P.length+N.length:=by simp[Z27];omega
theorem rows_eq {h:Z06} (v:Z3r h) {P N:List Int} (hP:Ids P) (hN:Ids N) (h1:P.length<1000000) (h2:N.length<1000000):Z4e.f h (lay P) (lay N)=some (Z27 h P N):=by
 have m0:=v.pos.len
 have m1:=v.neg.len
 unfold Z4e.f
 rw[counts_eq hP.1 hP.sm h1 v.pos.canon (by omega),sb,chkB (by simp;omega),counts_eq hN.1 hN.sm h2 v.neg.canon (by omega),sb,chkB (by simp;omega)]
 rfl
theorem len_le512 (n:Nat):decide ((n:Int)≤512)=decide (n≤512):=by
 by_cases h:n≤512
 ·rw[decide_eq_true h,decide_eq_true (by omega)]
 ·rw[decide_eq_false h,decide_eq_false (by omega)]
structure COk (l:List Ze):Prop where
 ok:∀ s∈l,Z3r s.f1∧0≤s.f0∧s.f0≤1099511627776
 len:l.length≤32
 up:l.Pairwise (fun a b=>a.f0<b.f0)
 head:∀ s∈l,∀ t∈l,s.f1.f0=t.f1.f0∧s.f1.f1=t.f1.f1∧s.f1.f2=t.f1.f2
 pos:(allI 0 l).length≤512
 neg:(allI 1 l).length≤512
theorem COk.nil:COk []:=⟨by simp,by simp,by simp,by simp,by simp[allI],by simp[allI]⟩
theorem fit_nil (s:Ze) (vs:Z3r s.f1) (ht:0≤s.f0∧s.f0≤1099511627776):COk ([]++[s]):=by
 refine⟨by simp;exact⟨vs,ht⟩,by simp,by simp,by simp,?_,?_⟩
 ·have:=(side_of vs 0).len;rw[Z63];simp[allI,uni,this]
 ·have:=(side_of vs 1).len;rw[Z63];simp[allI,uni,this]
theorem cfits (P:List Ze) (p s:Ze) (hl:(P++[p]).length≤900) (hV:∀ x∈(P++[p])++[s],Z3r x.f1) :
  Z1j.f (P++[p]) s=(if(decide (31<(P++[p]).length)||decide (s.f0≤p.f0)||(s.f1.f0 != p.f1.f0)||(s.f1.f1 != p.f1.f1)||(s.f1.f2 != p.f1.f2))=true then some false else
   ((if(s.f1.f0==(0:Int))=true then((Z4c.f p.f1 s.f1)>>=fun t1460=>some t1460) else(some false)):Option (Bool))>>=fun x1462=>if x1462=true then(some false) else some (decide ((allI 0 ((P++[p])++[s])).length≤512)&&decide ((allI 1 ((P++[p])++[s])).length≤512))):=by
 have hla:((P++[p]:List Ze).length:Int)=P.length+1:=by simp
 have hat:at? (P++[p]) (i64.wrap (((P++[p]:List Ze).length:Int)-1))=some p:=by
  rw[hla,Zf (by simp at hl;omega) (by simp at hl;omega)];exact Z1q (pre:=P) (x:=p) (suf:=[]) rfl (by omega)
 have hne:¬ ((((P++[p]:List Ze).length:Int)==0)=true):=by rw[hla];simp;omega
 have hl2:((P++[p])++[s]:List Ze).length≤1000:=by simp at hl ⊢;omega
 unfold Z1j.f
 have hal:Z3u.f p.f1 s.f1=some (!((s.f1.f0 != p.f1.f0)||(s.f1.f1 != p.f1.f1)||(s.f1.f2 != p.f1.f2))):=by
  unfold Z3u.f
  by_cases q0:p.f1.f0=s.f1.f0
  ·rw[if_pos (by simpa using q0),show(s.f1.f0 != p.f1.f0)=false by simp[q0]]
   by_cases q1:p.f1.f1=s.f1.f1
   ·rw[if_pos (by simpa using q1),sb,show(s.f1.f1 != p.f1.f1)=false by simp[q1]]
    by_cases q2:p.f1.f2=s.f1.f2
    ·rw[show(p.f1.f2==s.f1.f2)=true by simpa using q2,show(s.f1.f2 != p.f1.f2)=false by simp[q2]];rfl
    ·rw[show(p.f1.f2==s.f1.f2)=false by simpa using q2,show(s.f1.f2 != p.f1.f2)=true by simpa using fun h=>q2 h.symm];rfl
   ·rw[if_neg (by simpa using q1),sb,show(s.f1.f1 != p.f1.f1)=true by simpa using fun h=>q1 h.symm];rfl
  ·rw[if_neg (by simpa using q0),sb,show(s.f1.f0 != p.f1.f0)=true by simpa using fun h=>q0 h.symm];rfl
 have hb:((if(decide (((P++[p]:List Ze).length:Int)≥(32:Int)))=true then(some true) else(if(decide (s.f0≤p.f0))=true then(some true) else((Z3u.f p.f1 s.f1)>>=fun t319=>some (!t319)))):Option (Bool))=some (decide (31<(P++[p]).length)||decide (s.f0≤p.f0)||(s.f1.f0 != p.f1.f0)||(s.f1.f1 != p.f1.f1)||(s.f1.f2 != p.f1.f2)):=by
  rw[hal,sb,Bool.not_not]
  by_cases q1:31<(P++[p]).length
  ·rw[if_pos (by simpa using (by omega:((P++[p]:List Ze).length:Int)≥32)),decide_eq_true q1];simp
  ·rw[if_neg (by simpa using (by omega:¬ ((P++[p]:List Ze     ).length:Int)≥32)),decide_eq_false q1]
   cases decide (s.f0≤p.f0)<;>simp[Bool.or_assoc]
 have hcl:Z1v.f (P++[p])=some (P++[p]):=by
  unfold Z1v.f
  rw[chkB (by simp at hl ⊢;omega)]
 rw[if_neg hne,hat,sb,hb,sb,hcl,sb,chkB (by simp at hl ⊢;omega),lays_eq _ hl2 hV,sb]
 have i0:=Z86 0 _ hV
 have i1:=Z86 1 _ hV
 have n0:=Zb3 0 _ hV
 have n1:=Zb3 1 _ hV
 dsimp only
 rw[Z77 i0.sm (by omega),Z77 i1.sm (by omega),sb,sb,len_le512,len_le512]
 congr 2
 funext x
 cases x with
 | true=>rfl
 | false=>cases decide ((allI 0 ((P++[p])++[s])).length≤512)<;>simp[sb]
theorem fit_fin (P:List Ze) (p s:Ze) (vs:Z3r s.f1) (ht:0≤s.f0∧s.f0≤1099511627776) (g:¬ (decide (31<(P++[p]).length)||decide (s.f0≤p.f0)||(s.f1.f0 != p.f1.f0)||(s.f1.f1 != p.f1.f1)||(s.f1.f2 != p.f1.f2))=true):∀ r:Bool,r=(decide ((allI 0 ((P++[p])++[s])).length≤512)&&decide ((allI 1 ((P++[p])++[s])).length≤512))→r=true→COk (P++[p])→COk ((P++[p])++[s]):=by
 have g2:(P++[p]).length≤31∧p.f0<s.f0∧s.f1.f0=p.f1.f0∧s.f1.f1=p.f1.f1∧s.f1.f2=p.f1.f2:=by
  simp only[Bool.or_eq_true,decide_eq_true_eq,bne_iff_ne,not_or,Classical.not_not] at g
  obtain⟨⟨⟨⟨q1,q2⟩,q3⟩,q4⟩,q5⟩:=g
  exact⟨by omega,by omega,q3,q4,q5⟩
 intro r hr ht2 hc
 rw[ht2] at hr
 have hr':=hr.symm
 simp only[Bool.and_eq_true,decide_eq_true_eq] at hr'
 refine⟨fun x hx => ?_,by simp at g2 ⊢;omega,?_,?_,hr'.1,hr'.2⟩
 ·rcases List.mem_append.1 hx with hx | hx
  ·exact hc.ok x hx
  ·simp at hx;subst hx;exact⟨vs,ht⟩
 ·refine List.pairwise_append.2 ⟨hc.up,by simp,fun a ha b hb => ?_⟩
  simp at hb;subst hb
  rcases List.mem_append.1 ha with ha | ha
  ·have:=(List.pairwise_append.1 hc.up).2.2 a ha p (by simp);omega
  ·simp at ha;subst ha;exact g2.2.1
 ·have hp:∀ x∈(P++[p])++[s],x.f1.f0=p.f1.f0∧x.f1.f1=p.f1.f1∧x.f1.f2=p.f1.f2:=fun x hx=>by
   rcases List.mem_append.1 hx with hx | hx
   ·exact hc.head x hx p (by simp)
   ·simp at hx;subst hx;exact g2.2.2
  intro x hx y hy
  have h1:=hp x hx
  have h2:=hp y hy
  exact⟨h1.1.trans h2.1.symm,h1.2.1.trans h2.2.1.symm,h1.2.2.trans h2.2.2.symm⟩
theorem fits_p (l:List Ze) (s:Ze) (hl:l.length≤900) (hv:∀ x∈l++[s],Z3r x.f1∧Fits x.f1) (ht:0≤s.f0∧s.f0≤1099511627776) :
  ∃ r:Bool,Z1j.f l s=some r∧(r=true→COk l→COk (l++[s])):=by
 have vs:=hv s (by simp)
 rcases List.eq_nil_or_concat l with rfl | ⟨P,p,rfl⟩
 ·refine⟨true,?_,fun _ _=>fit_nil s vs.1 ht⟩
  unfold Z1j.f;rw[if_pos (by simp)]
 simp only[List.concat_eq_append] at *
 have vp:=hv p (by simp)
 have hV:∀ x∈(P++[p])++[s],Z3r x.f1:=fun x hx=>(hv x hx).1
 rw[cfits P p s hl hV]
 by_cases g:(decide (31<(P++[p]).length)||decide (s.f0≤p.f0)||(s.f1.f0 != p.f1.f0)||(s.f1.f1 != p.f1.f1)||(s.f1.f2 != p.f1.f2))=true
 ·exact⟨false,by rw[if_pos g],by simp⟩
 rw[if_neg g]
 have fin:=fit_fin P p s vs.1 ht g
 by_cases k0:s.f1.f0=0
 ·obtain⟨q,e,e1,_⟩:=sub_anyP s.f1 p.f1 vs.1 vs.2 vp.1 vp.2
  unfold Z4c.f
  rw[if_pos (by simpa using k0),e1,sb,sb,sb]
  by_cases k1:e=21
  ·exact⟨false,by rw[if_pos (by simpa using k1)],by simp⟩
  ·exact⟨_,by rw[if_neg (by simpa using k1)],fin _ rfl⟩
 ·rw[if_neg (by simpa using k0),sb]
  exact⟨_,by rw[if_neg (by simp)],fin _ rfl⟩
theorem take_pre {α:Type} {l pre suf:List α} {i:Int} (h:l=pre++suf) (hi:i=(pre.length:Int)):(l.drop (Int.toNat (0:Int))).take (Int.toNat i-Int.toNat (0:Int))=pre:=by
 rw[show Int.toNat (0:Int)=0 from rfl,List.drop_zero,Nat.sub_zero,hi,Int.toNat_natCast,h,List.take_left]
theorem chkp_l0 (l:List Ze) (hl:l.length<1000000000000000) (hf:∀ s∈l,Fits s.f1):∀ (suf pre:List Ze) (i:Int),l=pre++suf→i=(pre.length:Int)→COk pre →
  ∃ r:Int ⊕ Unit,Z0m.l0 l i=some r∧(∀ c,r = .inl c→c≠0)∧(r = .inr ()→COk l):=by
 intro suf
 induction suf with
 | nil =>
  intro pre i h1 hi hc
  rw[List.append_nil] at h1
  subst h1
  refine⟨.inr (),?_,by simp,fun _=>hc⟩
  rw[Z0m.l0,if_neg (by simp[hi])]
 | cons s suf ih =>
  intro pre i h1 hi hc
  have hlen:l.length=pre.length+(suf.length+1):=by rw[h1];simp
  have hs:=hf s (by rw[h1];simp)
  have hT:∀ x:Int,((if(decide (x<(0:Int)))=true then(some true) else(some (decide (x>(1099511627776:Int))))):Option (Bool))=some (!decide (0≤x∧x≤1099511627776)):=fun x=>by
   by_cases c:x<0
   ·rw[if_pos (by simpa using c),decide_eq_false (by omega)];rfl
   ·rw[if_neg (by simpa using c)]
    by_cases c2:x>1099511627776
    ·rw[decide_eq_true c2,decide_eq_false (by omega)];rfl
    ·rw[decide_eq_false c2,decide_eq_true (by omega)];rfl
  by_cases ht:0≤s.f0∧s.f0≤1099511627776
  case neg =>
   refine⟨.inl 4,?_,by simp,by simp⟩
   rw[Z0m.l0,if_pos (by simp;omega),Z1q h1 hi,sb,hT,sb,if_pos (by rw[decide_eq_false ht];rfl)]
  have hb:¬ ((!decide (0≤s.f0∧s.f0≤1099511627776))=true):=by rw[decide_eq_true ht];decide
  obtain⟨e,e1,e3⟩:=Zcf s.f1 hs
  have A:Z0m.l0 l i=(if(e != (0:Int))=true then some (.inl e) else((Z1j.f pre s)>>=fun t1838=>if(!t1838)=true then(some (.inl 6)) else Z0m.l0 l (i+1))):=by
   rw[Z0m.l0,if_pos (by simp;omega),Z1q h1 hi,sb,hT,sb,if_neg hb,e1,sb,chkB (by omega),take_pre h1 hi,Zf (n:=i+1) (by omega) (by omega)]
  rw[A]
  by_cases he:e=0
  case neg=>exact⟨.inl e,by rw[if_pos (by simpa using he)],fun c hc=>by cases hc;exact he,by simp⟩
  have hv:=e3.1 he
  rw[if_neg (by simpa using he)]
  obtain⟨r,f1,f3⟩:=fits_p pre s (by have:=hc.len;omega) (fun x hx=>by
   rcases List.mem_append.1 hx with hx | hx
   ·exact⟨(hc.ok x hx).1,hf x (by rw[h1];simp[hx])⟩
   ·simp at hx;subst hx;exact⟨hv,hs⟩) ht
  rw[f1,sb]
  cases r with
  | false=>exact⟨.inl 6,rfl,by simp,by simp⟩
  | true =>
   obtain⟨r,g1,g3,g4⟩:=ih (pre++[s]) (i+1) (by simp[h1]) (by simp;omega) (f3 rfl hc)
   exact⟨r,by rw[if_neg (by simp),g1],g3,g4⟩
theorem chk_p (l:List Ze) (hl:l.length<1000000000000000) (hf:∀ s∈l,Fits s.f1):∃ e,Z0m.f l=some e∧(e=0→COk l∧l≠[]):=by
 by_cases h0:l=[]
 ·subst h0;exact⟨30,rfl,by simp⟩
 have hn:¬ (((l.length:Int)==0)=true):=by
  have:l.length≠0:=fun h=>h0 (List.length_eq_zero_iff.1 h)
  simp;omega
 obtain⟨r,e1,e3,e4⟩:=chkp_l0 l hl hf l [] 0 rfl rfl COk.nil
 unfold Z0m.f
 rw[if_neg hn,e1,sb]
 cases r with
 | inl c=>exact⟨c,rfl,fun h=>absurd h (e3 c rfl)⟩
 | inr u=>exact⟨0,rfl,fun _=>⟨e4 rfl,h0⟩⟩
end Go.Proofs.YtinhldbfifpakaaGreat.PvGL
set_option linter.unusedVariables false
set_option linter.unusedSimpArgs false
set_option maxRecDepth 10000
namespace Go.Proofs.YtinhldbfifpakaaGreat.PvGL
open Go Go.Pv Go.Pv.GS Go.IntKind
def row0 (r:List Int):List Bool:=r.flatMap fun n=>cnt2 n.toNat
def row1 (a b:List Int):List Bool:=(List.zipWith (fun n w=>intB (i64.wrap (u64.wrap (n-w)))) a b).flatten
def subR (a b:List Int):List Int:=List.zipWith (fun n w=>u64.wrap (n-w)) a b
theorem row0_len:∀ (r:List Int),(row0 r).length≤71*r.length
 | []=>by simp[row0]
 | n::r=>by
  have:=row0_len r
  have:=Z22 n.toNat
  unfold row0 at *
  rw[List.flatMap_cons,List.length_append,List.length_cons];omega
theorem Z91:∀ (a b:List Int),(row1 a b).length≤71*a.length
 | [],_=>by simp[row1]
 | n::a,[]=>by simp[row1]
 | n::a,w::b=>by
  have:=Z91 a b
  have:=Z5o (i64.wrap (u64.wrap (n-w)))
  unfold row1 at *
  rw[List.zipWith_cons_cons,List.flatten_cons,List.length_append,List.length_cons];omega
theorem Z92 (n w:Int) (a b:List Int):row1 (n::a) (w::b)=intB (i64.wrap (u64.wrap (n-w)))++row1 a b:=by simp[row1]
theorem row0_cons (n:Int) (a:List Int):row0 (n::a)=cnt2 n.toNat++row0 a:=by simp[row0]
theorem Z6k (n w:Int) (a b:List Int):subR (n::a) (w::b)=u64.wrap (n-w)::subR a b:=by simp[subR]
theorem Z8x {a b:List Int} (h:a.length=b.length):(subR a b).length=a.length:=by simp[subR,h]
def body (P N:List Int):Option Ze→Option Ze→List Ze→List Bool
 | _,_,[]=>[]
 | _,none,s::r=>cnt2 s.f0.toNat++(row0 (Z27 s.f1 P N)++body P N none (some s) r)
 | none,some p,s::r=>cnt2 (s.f0-p.f0-1).toNat++(row1 (Z27 s.f1 P N) (Z27 p.f1 P N)++body P N (some p) (some s) r)
 | some q,some p,s::r=>intB (s.f0-2*p.f0+q.f0)++(row1 (subR (Z27 s.f1 P N) (Z27 p.f1 P N)) (subR (Z27 p.f1 P N) (Z27 q.f1 P N))++body P N (some p) (some s) r)
theorem Z7j {α:Type} (p:List α) (x y:α) (s:List α) {k:Int} (hk:k=(p.length:Int)):(p++x::s).set (Int.toNat k) y=p++y::s:=by
 rw[hk,Int.toNat_natCast];simp
theorem Z5l {α:Type} (p:List α) (x:α) (s:List α) {k:Int} (hk:k=(p.length:Int)):at? (p++x::s) k=some x:=Z1q rfl hk
theorem e1_0 (l:List Ze) (z:Ze) (t:Zd×Zd) (now was step:List Int) (la:Int) (hl:now.length<1000000) (hu:∀ n∈now,U64 n):∀ (suf pre nx:List Int) (b:List Int) (f:Nat) (s:List Bool) (k:Int),now=pre++suf→k=(pre.length:Int)→Laid b f s→s.length+71*suf.length<700000000 →
  ∃ (b':List Int) (f':Nat),Z08.l1 l z t now was step la 0 b (f:Int) nx k=some (b',(f':Int),nx)∧Laid b' f' (s++row0 suf):=by
 intro suf
 induction suf with
 | nil =>
  intro pre nx b f s k h1 hk h hs
  rw[Z08.l1,if_neg (by rw[h1];simp[hk])]
  exact⟨b,f,rfl,by simpa[row0] using h⟩
 | cons n suf ih =>
  intro pre nx b f s k h1 hk h hs
  have hlen:now.length=pre.length+(suf.length+1):=by rw[h1];simp
  have hn:=hu n (by rw[h1];simp)
  have hc:=Z22 n.toNat
  simp only[List.length_cons] at hs
  obtain⟨b1,f1,e1,h1'⟩:=Z5d h (by omega) hn.1 hn.2
  rw[Z08.l1,if_pos (by simp;omega),Z1q h1 hk,sb,if_pos (by simp),e1,sb,sb]
  dsimp only
  rw[Zf (n:=k+1) (by omega) (by omega)]
  obtain⟨b2,f2,e2,h2⟩:=ih (pre++[n]) nx b1 f1 _ (k+1) (by simp[h1]) (by simp;omega) h1' (by simp only[List.length_append];omega)
  exact⟨b2,f2,e2,by rw[row0_cons];simpa using h2⟩
theorem e1_1 (l:List Ze) (z:Ze) (t:Zd×Zd) (now was step:List Int) (la:Int) (hl:now.length<1000000):∀ (sn pn sw pw sx px:List Int) (b:List Int) (f:Nat) (s:List Bool) (k:Int),now=pn++sn→was=pw++sw→pw.length=pn.length→sw.length=sn.length→px.length=pn.length→sx.length=sn.length→k=(pn.length:Int)→Laid b f s→s.length+71*sn.length<700000000 →
  ∃ (b':List Int) (f':Nat),Z08.l1 l z t now was step la 1 b (f:Int) (px++sx) k=some (b',(f':Int),px++subR sn sw)∧Laid b' f' (s++row1 sn sw):=by
 intro sn
 induction sn with
 | nil =>
  intro pn sw pw sx px b f s k h1 h2 l1 l2 l3 l4 hk h hs
  have hsx:sx=[]:=List.length_eq_zero_iff.1 (by simpa using l4)
  subst hsx
  rw[Z08.l1,if_neg (by rw[h1];simp[hk])]
  exact⟨b,f,by simp[subR],by simpa[row1] using h⟩
 | cons n sn ih =>
  intro pn sw pw sx px b f s k h1 h2 l1 l2 l3 l4 hk h hs
  cases sw with
  | nil=>simp at l2
  | cons w sw =>
   cases sx with
   | nil=>simp at l4
   | cons x sx =>
    have hlen:now.length=pn.length+(sn.length+1):=by rw[h1];simp
    have hI:=Z80 (u64.wrap (n-w))
    have hc:=Z5o (i64.wrap (u64.wrap (n-w)))
    simp only[List.length_cons] at hs
    obtain⟨b1,f1,e1,h1'⟩:=wint h (by omega) hI
    rw[Z08.l1,if_pos (by simp;omega),Z1q h1 hk,sb,if_neg (by simp),if_pos (by simp),Z1q h2 (by omega),sb,Z5l px x sx (by omega),sb,Z7j px x _ sx (by omega),Z5l px _ sx (by omega),sb,e1,sb,sb]
    dsimp only
    rw[sb]
    dsimp only
    rw[Zf (n:=k+1) (by omega) (by omega)]
    obtain⟨b2,f2,e2,h2'⟩:=ih (pn++[n]) sw (pw++[w]) sx (px++[u64.wrap (n-w)]) b1 f1 _ (k+1) (by simp[h1]) (by simp[h2]) (by simp[l1]) (by simpa using l2) (by simp[l3]) (by simpa using l4) (by simp;omega) h1' (by simp only[List.length_append];omega)
    refine⟨b2,f2,?_,by rw[Z92];simpa using h2'⟩
    rw[Z6k]
    simpa using e2
theorem e1_2 (l:List Ze) (z:Ze) (t:Zd×Zd) (now was step:List Int) (la i:Int) (hi:2≤i) (hl:now.length<1000000):∀ (sn pn sw pw ss ps sx px:List Int) (b:List Int) (f:Nat) (s:List Bool) (k:Int),now=pn++sn→was=pw++sw→step=ps++ss→pw.length=pn.length→sw.length=sn.length→ps.length=pn.length→ss.length=sn.length→px.length=pn.length→sx.length=sn.length→k=(pn.length:Int)→Laid b f s→s.length+71*sn.length<700000000 →
  ∃ (b':List Int) (f':Nat),Z08.l1 l z t now was step la i b (f:Int) (px++sx) k=some (b',(f':Int),px++subR sn sw)∧Laid b' f' (s++row1 (subR sn sw) ss):=by
 intro sn
 induction sn with
 | nil =>
  intro pn sw pw ss ps sx px b f s k h1 h2 h3 l1 l2 l5 l6 l3 l4 hk h hs
  have hsx:sx=[]:=List.length_eq_zero_iff.1 (by simpa using l4)
  subst hsx
  rw[Z08.l1,if_neg (by rw[h1];simp[hk])]
  exact⟨b,f,by simp[subR],by simpa[row1,subR] using h⟩
 | cons n sn ih =>
  intro pn sw pw ss ps sx px b f s k h1 h2 h3 l1 l2 l5 l6 l3 l4 hk h hs
  cases sw with
  | nil=>simp at l2
  | cons w sw =>
   cases sx with
   | nil=>simp at l4
   | cons x sx =>
    cases ss with
    | nil=>simp at l6
    | cons v ss =>
     have hlen:now.length=pn.length+(sn.length+1):=by rw[h1];simp
     have hI:=Z80 (u64.wrap (u64.wrap (n-w)-v))
     have hc:=Z5o (i64.wrap (u64.wrap (u64.wrap (n-w)-v)))
     simp only[List.length_cons] at hs
     obtain⟨b1,f1,e1,h1'⟩:=wint h (by omega) hI
     rw[Z08.l1,if_pos (by simp;omega),Z1q h1 hk,sb,if_neg (by simp;omega),if_neg (by simp;omega),Z1q h2 (by omega),sb,Z5l px x sx (by omega),sb,Z7j px x _ sx (by omega),Z5l px _ sx (by omega),sb,Z1q h3 (by omega),sb,e1,sb,sb]
     dsimp only
     rw[sb]
     dsimp only
     rw[Zf (n:=k+1) (by omega) (by omega)]
     obtain⟨b2,f2,e2,h2'⟩:=ih (pn++[n]) sw (pw++[w]) ss (ps++[v]) sx (px++[u64.wrap (n-w)]) b1 f1 _ (k+1) (by simp[h1]) (by simp[h2]) (by simp[h3]) (by simp[l1]) (by simpa using l2) (by simp[l5]) (by simpa using l6) (by simp[l3]) (by simpa using l4) (by simp;omega) h1' (by simp only[List.length_append];omega)
     refine⟨b2,f2,?_,by rw[Z6k,Z92];simpa using h2'⟩
     rw[Z6k]
     simpa using e2
theorem tot_u64 {r:List Z3} (hc:Z4p r) (hu:∀ y∈r,U64 y.f1) (i:Int):U64 (tot r i):=by
 by_cases h:∃ y∈r,y.f0=i
 ·obtain⟨y,hy,rfl⟩:=h
  rw[hc.tot_of hy];exact hu y hy
 ·rw[tot_zero (fun y hy e=>h ⟨y,hy,e⟩)];exact⟨by omega,by omega⟩
theorem rows_u64 {h:Z06} (v:Z3r h) (f:Fits h) (P N:List Int):∀ n∈Z27 h P N,U64 n:=by
 intro n hn
 simp only[Z27,List.mem_append,List.mem_cons,List.not_mem_nil,or_false,List.mem_map] at hn
 rcases hn with ((rfl | rfl) | ⟨i,_,rfl⟩) | ⟨i,_,rfl⟩
 ·exact f.zero
 ·exact Z67 _
 ·exact tot_u64 v.pos.canon (fun y hy=>(f.pos y hy).2) i
 ·exact tot_u64 v.neg.canon (fun y hy=>(f.neg y hy).2) i
def Two (pre:List Ze) (q p:Option Ze):Prop :=
 (pre=[]∧q=none∧p=none)∨(∃ x,pre=[x]∧q=none∧p=some x)∨(∃ P0 y x,pre=P0++[y,x]∧q=some y∧p=some x)
theorem Two.next {pre:List Ze} {q p:Option Ze} (h:Two pre q p) (s:Ze):Two (pre++[s]) p (some s):=by
 rcases h with ⟨rfl,rfl,rfl⟩ | ⟨x,rfl,rfl,rfl⟩ | ⟨P0,y,x,rfl,rfl,rfl⟩
 ·exact .inr (.inl ⟨s,rfl,rfl,rfl⟩)
 ·exact .inr (.inr ⟨[],x,s,rfl,rfl,rfl⟩)
 ·exact .inr (.inr ⟨P0++[y],x,s,by simp,rfl,rfl⟩)
theorem COk.ids {l:List Ze} (hc:COk l) (hF:∀ s∈l,Fits s.f1):Ids (allI 0 l)∧Ids (allI 1 l):=⟨Z86 0 l (fun s hs=>(hc.ok s hs).1),Z86 1 l (fun s hs=>(hc.ok s hs).1)⟩
theorem enc_l0 {l:List Ze} (hc:COk l) (hF:∀ s∈l,Fits s.f1):∀ (suf pre:List Ze) (q p:Option Ze) (was step:List Int) (la gap:Int) (b:List Int) (f:Nat) (s:List Bool) (i:Int),l=pre++suf→i=(pre.length:Int)→Two pre q p →
  (∀ x,p=some x→was=Z27 x.f1 (allI 0 l) (allI 1 l)∧la=x.f0)→(∀ y x,q=some y→p=some x→step=subR (Z27 x.f1 (allI 0 l) (allI 1 l)) (Z27 y.f1 (allI 0 l) (allI 1 l))∧gap=x.f0-y.f0)→(p=none→la=0) →
  Laid b f s→s.length+80000*suf.length<500000000 →
  ∃ (b':List Int) (f':Nat),Z08.l0 l (lay (allI 0 l),lay (allI 1 l)) b (f:Int) was step la gap i=some (b',(f':Int))∧Laid b' f' (s++body (allI 0 l) (allI 1 l) q p suf):=by
 obtain⟨iP,iN⟩:=hc.ids hF
 have lP:=hc.pos
 have lN:=hc.neg
 intro suf
 induction suf with
 | nil =>
  intro pre q p was step la gap b f s i h1 hi _ _ _ _ h _
  rw[Z08.l0,if_neg (by rw[h1];simp[hi])]
  exact⟨b,f,rfl,by cases q<;>cases p<;>simpa[body] using h⟩
 | cons x suf ih =>
  intro pre q p was step la gap b f s i h1 hi h2 hp hq hn h hs
  have hlen:l.length=pre.length+(suf.length+1):=by rw[h1];simp
  have h32:=hc.len
  have hx:=hc.ok x (by rw[h1];simp)
  have fx:=hF x (by rw[h1];simp)
  have hrl:=Z4m x.f1 (allI 0 l) (allI 1 l)
  have R:=rows_eq hx.1 iP iN (by omega) (by omega)
  have hru:=rows_u64 hx.1 fx (allI 0 l) (allI 1 l)
  generalize eR:Z27 x.f1 (allI 0 l) (allI 1 l)=R0 at *
  simp only[List.length_cons] at hs
  have hup:=hc.up
  rw[h1] at hup
  have h2x:=h2.next x
  have hrep:(List.replicate (Int.toNat (R0.length:Int)) (0:Int))=List.replicate R0.length 0:=by rw[Int.toNat_natCast]
  rw[Z08.l0,if_pos (by simp;omega),Z1q h1 hi,sb,R,sb]
  rcases h2 with ⟨rfl,rfl,rfl⟩ | ⟨y,rfl,rfl,rfl⟩ | ⟨P0,y,w,rfl,rfl,rfl⟩
  ·have hi0:i=0:=by simpa using hi
   subst hi0
   have hla:=hn rfl
   subst hla
   have hc1:=Z22 x.f0.toNat
   obtain⟨b1,f1,e1,g1⟩:=Z5d h (by omega) (n:=x.f0) (by omega) (by omega)
   rw[if_pos (by simp),Z40 (n:=x.f0) (by omega) (by omega),e1,sb,sb]
   dsimp only
   rw[chkB (by omega),hrep]
   have hr0:=row0_len R0
   obtain⟨b2,f2,e2,g2⟩:=e1_0 l x (lay (allI 0 l),lay (allI 1 l)) R0 was step 0 (by omega) hru R0 [] (List.replicate R0.length 0) b1 f1 _ 0 rfl rfl g1 (by simp only[List.length_append];omega)
   rw[e2,sb]
   dsimp only
   rw[Zf (n:=(0:Int)+1) (by omega) (by omega)]
   obtain⟨b3,f3,e3,g3⟩:=ih [x] none (some x) R0 (List.replicate R0.length 0) x.f0 (i64.wrap (x.f0-0)) b2 f2 _ (0+1) (by simp[h1]) (by simp) h2x (fun y hy=>by cases hy;exact⟨eR.symm,rfl⟩) (fun y z hy=>by cases hy) (fun hy=>by cases hy) g2 (by simp only[List.length_append];omega)
   exact⟨b3,f3,e3,by rw[body,eR];simpa using g3⟩
  ·have hi1:i=1:=by simpa using hi
   subst hi1
   obtain⟨rfl,rfl⟩:=hp y rfl
   have hy:=hc.ok y (by rw[h1];simp)
   have hyx:y.f0<x.f0:=(List.pairwise_append.1 hup).2.2 y (by simp) x (by simp)
   have hyl:=Z4m y.f1 (allI 0 l) (allI 1 l)
   have hc1:=Z22 (x.f0-y.f0-1).toNat
   obtain⟨b1,f1,e1,g1⟩:=Z5d h (by omega) (n:=x.f0-y.f0-1) (by omega) (by omega)
   rw[if_neg (by simp),if_pos (by simp),Zf (n:=x.f0-y.f0) (by omega) (by omega),Zf (n:=x.f0-y.f0-1) (by omega) (by omega),Z40 (n:=x.f0-y.f0-1) (by omega) (by omega),e1,sb,sb]
   dsimp only
   rw[sb]
   dsimp only
   rw[chkB (by omega),hrep]
   have hr0:=Z91 R0 (Z27 y.f1 (allI 0 l) (allI 1 l))
   obtain⟨b2,f2,e2,g2⟩:=e1_1 l x (lay (allI 0 l),lay (allI 1 l)) R0 (Z27 y.f1 (allI 0 l) (allI 1 l)) step y.f0 (by omega) R0 [] (Z27 y.f1 (allI 0 l) (allI 1 l)) [] (List.replicate R0.length 0) [] b1 f1 _ 0 rfl rfl rfl (by omega) rfl (by simp) rfl g1 (by simp only[List.length_append];omega)
   rw[List.nil_append] at e2
   rw[e2,sb]
   dsimp only
   rw[Zf (n:=(1:Int)+1) (by omega) (by omega),List.nil_append]
   obtain⟨b3,f3,e3,g3⟩:=ih [y,x] (some y) (some x) R0 (subR R0 (Z27 y.f1 (allI 0 l) (allI 1 l))) x.f0 (x.f0-y.f0) b2 f2 _ (1+1) (by simp[h1]) (by simp) h2x (fun z hz=>by cases hz;exact⟨eR.symm,rfl⟩) (fun z v hz hv=>by cases hz;cases hv;rw[eR];exact⟨rfl,rfl⟩) (fun hy=>by cases hy) g2 (by simp only[List.length_append];omega)
   exact⟨b3,f3,e3,by rw[body,eR];simpa using g3⟩
  ·have hi2:2≤i:=by rw[hi];simp;omega
   obtain⟨rfl,rfl⟩:=hp w rfl
   obtain⟨rfl,rfl⟩:=hq y w rfl rfl
   have hw:=hc.ok w (by rw[h1];simp)
   have hy:=hc.ok y (by rw[h1];simp)
   have hwx:w.f0<x.f0:=(List.pairwise_append.1 hup).2.2 w (by simp) x (by simp)
   have hwl:=Z4m w.f1 (allI 0 l) (allI 1 l)
   have hyl:=Z4m y.f1 (allI 0 l) (allI 1 l)
   have hc1:=Z5o (x.f0-2*w.f0+y.f0)
   have e0:i64.wrap (i64.wrap (x.f0-w.f0)-(w.f0-y.f0))=x.f0-2*w.f0+y.f0:=by
    rw[Zf (n:=x.f0-w.f0) (by omega) (by omega),Zf (by omega) (by omega)];omega
   obtain⟨b1,f1,e1,g1⟩:=wint h (by omega) (a:=x.f0-2*w.f0+y.f0) (by omega)
   rw[if_neg (by simp;omega),if_neg (by simp;omega),e0,e1,sb,sb]
   dsimp only
   rw[sb]
   dsimp only
   rw[chkB (by omega),hrep]
   have hsl:=Z8x (a:=Z27 w.f1 (allI 0 l) (allI 1 l)) (b:=Z27 y.f1 (allI 0 l) (allI 1 l)) (by omega)
   have hsl2:=Z8x (a:=R0) (b:=Z27 w.f1 (allI 0 l) (allI 1 l)) (by omega)
   have hr0:=Z91 (subR R0 (Z27 w.f1 (allI 0 l) (allI 1 l))) (subR (Z27 w.f1 (allI 0 l) (allI 1 l)) (Z27 y.f1 (allI 0 l) (allI 1 l)))
   obtain⟨b2,f2,e2,g2⟩:=e1_2 l x (lay (allI 0 l),lay (allI 1 l)) R0 (Z27 w.f1 (allI 0 l) (allI 1 l)) (subR (Z27 w.f1 (allI 0 l) (allI 1 l)) (Z27 y.f1 (allI 0 l) (allI 1 l))) w.f0 i hi2 (by omega) R0 [] (Z27 w.f1 (allI 0 l) (allI 1 l)) [] (subR (Z27 w.f1 (allI 0 l) (allI 1 l)) (Z27 y.f1 (allI 0 l) (allI 1 l))) [] (List.replicate R0.length 0) [] b1 f1 _ 0 rfl rfl rfl rfl (by omega) rfl (by omega) rfl (by simp) rfl g1 (by simp only[List.length_append];omega)
   rw[List.nil_append] at e2
   rw[e2,sb]
   dsimp only
   rw[Zf (n:=i+1) (by omega) (by omega),List.nil_append,Zf (n:=x.f0-w.f0) (by omega) (by omega)]
   obtain⟨b3,f3,e3,g3⟩:=ih (P0++[y,w]++[x]) (some w) (some x) R0 (subR R0 (Z27 w.f1 (allI 0 l) (allI 1 l))) x.f0 (x.f0-w.f0) b2 f2 _ (i+1) (by simp[h1]) (by simp at hi ⊢;omega) h2x (fun z hz=>by cases hz;exact⟨eR.symm,rfl⟩) (fun z v hz hv=>by cases hz;cases hv;rw[eR];exact⟨rfl,rfl⟩) (fun hy=>by cases hy) g2 (by simp only[List.length_append];omega)
   exact⟨b3,f3,e3,by rw[body,eR];simpa using g3⟩
theorem body_len {l:List Ze} (hc:COk l) (hF:∀ s∈l,Fits s.f1):∀ (suf:List Ze) (q p:Option Ze),(∀ x,p=some x→True)→(body (allI 0 l) (allI 1 l) q p suf).length≤80000*suf.length:=by
 have lP:=hc.pos
 have lN:=hc.neg
 have hr:=fun(h:Z06)=>Z4m h (allI 0 l) (allI 1 l)
 intro suf
 induction suf with
 | nil=>intro q p _;cases q<;>cases p<;>simp[body]
 | cons s suf ih =>
  intro q p hp
  have:=ih p (some s) (fun _ _=>trivial)
  have hs:=hr s.f1
  cases p with
  | none =>
   have h1:=ih none (some s) (fun _ _=>trivial)
   have h2:=Z22 s.f0.toNat
   have h3:=row0_len (Z27 s.f1 (allI 0 l) (allI 1 l))
   cases q<;>simp only[body,List.length_append,List.length_cons]<;>omega
  | some p =>
   have hp:=hr p.f1
   cases q with
   | none =>
    have h2:=Z22 (s.f0-p.f0-1).toNat
    have h3:=Z91 (Z27 s.f1 (allI 0 l) (allI 1 l)) (Z27 p.f1 (allI 0 l) (allI 1 l))
    simp only[body,List.length_append,List.length_cons];omega
   | some q =>
    have hq:=hr q.f1
    have h2:=Z5o (s.f0-2*p.f0+q.f0)
    have h3:=Z91 (subR (Z27 s.f1 (allI 0 l) (allI 1 l)) (Z27 p.f1 (allI 0 l) (allI 1 l))) (subR (Z27 p.f1 (allI 0 l) (allI 1 l)) (Z27 q.f1 (allI 0 l) (allI 1 l)))
    have h4:=Z8x (a:=Z27 s.f1 (allI 0 l) (allI 1 l)) (b:=Z27 p.f1 (allI 0 l) (allI 1 l)) (by omega)
    simp only[body,List.length_append,List.length_cons];omega
def Z61 (l:List Ze):List Bool:=match l with
 | []=>[]
 | h::_=>[h.f1.f0==1]++(nb (h.f1.f1+4).toNat 4++(intB h.f1.f2++(lyB (lay (allI 0 l))++(lyB (lay (allI 1 l))++(cnt2 (l.length-1)++body (allI 0 l) (allI 1 l) none none l)))))
theorem Za1 {l:List Ze} (hc:COk l) (hF:∀ s∈l,Fits s.f1):(Z61 l).length≤3000000:=by
 cases l with
 | nil=>simp[Z61]
 | cons h r =>
  have h1:=Z5o h.f1.f2
  have h2:=lyB_len (lay (allI 0 (h::r)))
  have h3:=lyB_len (lay (allI 1 (h::r)))
  have h4:=@Z4r (allI 0 (h::r))
  have h5:=@Z4r (allI 1 (h::r))
  have h6:=Z22 ((h::r).length-1)
  have h7:=body_len hc hF (h::r) none none (fun _ _=>trivial)
  have lP:=hc.pos
  have lN:=hc.neg
  have h32:=hc.len
  simp only[Z61,List.length_append,Z41,List.length_singleton]
  omega
theorem wbit0 (f:Int) (x:Bool):Z2w.f f x=Z0s.f [] f x:=by kernel_rfl
theorem enc_eq {l:List Ze} (hc:COk l) (hne:l≠[]) (hF:∀ s∈l,Fits s.f1) (hk:Z0m.f l=some 0):∃ (b:List Int) (f:Nat),Z08.f l=some (b,0)∧Laid b f (Z61 l):=by
 obtain⟨iP,iN⟩:=hc.ids hF
 have lP:=hc.pos
 have lN:=hc.neg
 have h32:=hc.len
 have vs:∀ s∈l,Z3r s.f1:=fun s hs=>(hc.ok s hs).1
 obtain⟨h,r,rfl⟩:∃ h r,l=h::r:=by
  cases l with
  | nil=>exact absurd rfl hne
  | cons h r=>exact⟨h,r,rfl⟩
 have vh:=vs h (by simp)
 have fh:=hF h (by simp)
 have hsch:=vh.schema
 have hz:=vh.zero
 have h1:=Z5o h.f1.f2
 have h2:=lyB_len (lay (allI 0 (h::r)))
 have h3:=lyB_len (lay (allI 1 (h::r)))
 have h4:=@Z4r (allI 0 (h::r))
 have h5:=@Z4r (allI 1 (h::r))
 have h6:=Z22 ((h::r).length-1)
 have q0:=lay_f0 iP
 have q1:=lay_f0 iN
 have hw:u64.wrap (i64.wrap (h.f1.f1-(-4)))=h.f1.f1+4:=by
  have:=hsch.1;have:=hsch.2
  rw[Zf (by omega) (by omega),Z40 (by omega) (by omega)];omega
 have hs1:=hsch.1
 have hs2:=hsch.2
 unfold Z08.f
 rw[hk,sb,if_neg (by simp),show at? (h::r) 0=some h from rfl,sb,lays_eq _ (by omega) vs,sb,wbit0]
 obtain⟨b1,f1,e1,g1⟩:=wbit Laid.nil (by simp) (h.f1.f0==1)
 rw[show Z0s.f [] 0 (h.f1.f0==1)=_ from e1,sb,hw]
 dsimp only
 obtain⟨b2,f2,e2,g2⟩:=wput g1 (by simp) (n:=h.f1.f1+4) (by omega) (by omega) (k:=4) (by omega)
 rw[show Z0a.f b1 (f1:Int) (h.f1.f1+4) 4=_ from e2,sb]
 dsimp only
 obtain⟨b3,f3,e3,g3⟩:=wint g2 (by simp[Z41]) (a:=h.f1.f2) (by omega)
 rw[e3,sb]
 dsimp only
 obtain⟨b4,f4,e4,g4⟩:=wspan (lay (allI 0 (h::r))) (by omega) (lay_rsp iP lP) (by omega) (by simp[Z41];omega) g3
 rw[e4,sb]
 dsimp only
 obtain⟨b5,f5,e5,g5⟩:=wspan (lay (allI 1 (h::r))) (by omega) (lay_rsp iN lN) (by omega) (by simp[Z41];omega) g4
 rw[e5,sb]
 dsimp only
 have hln:u64.wrap (i64.wrap (((h::r).length:Int)-1))=(((h::r).length-1:Nat):Int):=by
  simp only[List.length_cons] at h32 ⊢
  rw[Zf (by omega) (by omega),Z40 (by omega) (by omega)];omega
 obtain⟨b6,f6,e6,g6⟩:=Z5d g5 (by simp[Z41];omega) (n:=(((h::r).length-1:Nat):Int)) (by omega) (by omega)
 rw[hln,e6,sb]
 dsimp only
 rw[Int.toNat_natCast] at g6
 obtain⟨b7,f7,e7,g7⟩:=enc_l0 hc hF (h::r) [] none none [] [] 0 0 b6 f6 _ 0 rfl rfl (.inl ⟨rfl,rfl,rfl⟩) (fun x hx=>by cases hx) (fun y x hy=>by cases hy) (fun _=>rfl) g6 (by simp only[List.length_append,List.length_nil,List.length_singleton,Z41];omega)
 rw[show Z08.l0 (h::r) (lay (allI 0 (h::r)),lay (allI 1 (h::r))) b6 (f6:Int) [] [] 0 0 0=_ from e7,sb]
 have hfin:Laid b7 f7 (Z61 (h::r)):=by
  unfold Z61
  simpa using g7
 have hbl:=hfin.len
 have hcl:=Za1 hc hF
 have hlt:=hfin.lt
 dsimp only
 unfold Z17.f Z2m.f
 rw[chkB (by simp;omega),sb,sb]
 exact⟨b7,f7,rfl,hfin⟩
end Go.Proofs.YtinhldbfifpakaaGreat.PvGL
