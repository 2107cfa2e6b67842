import Derived.Test.YtlclecehlekjoaaGreatPxChunkCuts13
set_option linter.unusedVariables false
set_option linter.unusedSimpArgs false
namespace Go.Proofs.YtlclecehlekjoaaGreat.PvGK
open Go Go.Pv Go.Pv.GS Go.IntKind
open Classical
theorem together_l0 (l:List Z2) (k:Int) (hl:l.length<1000000):∀ (suf pre:List Z2) (x:List Int) (i:Int),l=pre++suf→i=(pre.length:Int)→x.length≤pre.length →
  Z0z.l0 l k x i=some (x++(suf.filter (fun b=>decide (b.f0=k))).map (·.f1)):=by
 intro suf
 induction suf with
 | nil=>intro pre x i h1 hi _;subst h1;rw[Z0z.l0,if_neg (by simp[hi])];simp
 | cons b suf ih =>
  intro pre x i h1 hi hx
  have hlen:(l.length:Int)=pre.length+(suf.length+1):=by rw[h1];simp
  rw[Z0z.l0,if_pos (by simp;omega),Z10 h1 hi,sb,Zl (by omega) (by omega)]
  by_cases h:b.f0=k
  ·rw[if_pos (by simpa using h),chkB (by simp;omega),sb,ih (pre++[b]) _ (i+1) (by simp[h1]) (by simp;omega) (by simp;omega)]
   simp[h]
  ·rw[if_neg (by simpa using h),sb,ih (pre++[b]) _ (i+1) (by simp[h1]) (by simp;omega) (by simp;omega)]
   simp[h]
theorem tot_sum (l:List Z2) (k:Int):((l.filter (fun b=>decide (b.f0=k))).map (·.f1)).sum=tot l k:=by
 induction l with
 | nil=>rfl
 | cons b l ih =>
  by_cases h:b.f0=k
  ·rw[List.filter_cons_of_pos (by simpa using h),List.map_cons,List.sum_cons,ih,tot,if_pos h]
  ·rw[List.filter_cons_of_neg (by simpa using h),ih,tot,if_neg h];omega
theorem together_eq (l:List Z2) (k:Int) (hl:l.length<1000000) (hn:Nn l) (ht:cnt l<18446744073709551616):Z0z.f l k=some (tot l k,0):=by
 unfold Z0z.f
 have h1:=Z71 hn k
 rw[together_l0 l k hl l [] [] 0 rfl rfl (Nat.le_refl _),sb,List.nil_append,ref_add _ (by
  rw[List.length_map]
  have:=List.length_filter_le (fun b:Z2=>decide (b.f0=k)) l;omega) (by
  intro x hx
  obtain⟨b,hb,rfl⟩:=List.mem_map.1 hx
  have hb:=(List.mem_filter.1 hb).1
  exact⟨hn b hb,by have:=le_cnt hn hb;omega⟩),sb,tot_sum,if_pos (by omega)]
def Cand (hv:Bool) (last:Int) (b:Z2):Prop:=hv=false∨last<b.f0
structure Least (hv:Bool) (last:Int) (l:List Z2) (fd:Bool) (nx:Int):Prop where
 none:fd=false→∀ b∈l,¬ Cand hv last b
 some:fd=true→(∃ b∈l,Cand hv last b∧b.f0=nx)∧∀ b∈l,Cand hv last b→nx≤b.f0
theorem tidy_l1 (l o:List Z2) (hv:Bool) (last:Int) (hl:l.length<1000000):∀ (suf pre:List Z2) (fd:Bool) (nx i:Int),l=pre++suf→i=(pre.length:Int)→Least hv last pre fd nx →
  ∃ fd' nx',Z0w.l1 l o hv last fd nx i=some (fd',nx')∧Least hv last l fd' nx':=by
 intro suf
 induction suf with
 | nil=>intro pre fd nx i h1 hi hL;rw[List.append_nil] at h1;subst h1;rw[Z0w.l1,if_neg (by simp[hi])];exact⟨_,_,rfl,hL⟩
 | cons b suf ih =>
  intro pre fd nx i h1 hi hL
  have hlen:(l.length:Int)=pre.length+(suf.length+1):=by rw[h1];simp
  have e1:l=(pre++[b])++suf:=by simp[h1]
  have e2:i+1=((pre++[b]).length:Int):=by simp;omega
  have hc:((if(!hv)=true then(if(!fd)=true then(some true) else((at? l i)>>=fun b1857=>some (decide (b1857.f0<nx)))) else((at? l i)>>=fun b1860=>if(decide (b1860.f0>last))=true then(if(!fd)=true then(some true) else(some (decide (b1860.f0<nx)))) else(some false))):Option (Bool))=some (decide (Cand hv last b∧(fd=false∨b.f0<nx))):=by
   rw[Z10 h1 hi,sb,sb]
   unfold Cand
   cases hv<;>cases fd<;>simp
   ·by_cases h:last<b.f0<;>simp[h]
   ·by_cases h:last<b.f0<;>simp[h]
  rw[Z0w.l1,if_pos (by simp;omega),hc,sb,Zl (by omega) (by omega)]
  by_cases h:Cand hv last b∧(fd=false∨b.f0<nx)
  ·rw[if_pos (by simpa using h),Z10    h1 hi,sb,sb]
   simp only[]
   refine ih (pre++[b]) true b.f0 (i+1) e1 e2 ⟨fun h=>(by cases h),fun _=>⟨⟨b,by simp,h.1,rfl⟩,fun c hc hcc => ?_⟩⟩
   rcases List.mem_append.1 hc with hc | hc
   ·rcases h.2 with h2 | h2
    ·exact absurd hcc (hL.none h2 c hc)
    ·cases hfd:fd with
     | false=>exact absurd hcc (hL.none hfd c hc)
     | true=>have:=(hL.some hfd).2 c hc hcc;omega
   ·simp at hc;subst hc;exact Int.le_refl _
  ·rw[if_neg (by simpa using h),sb]
   simp only[]
   refine ih (pre++[b]) fd nx (i+1) e1 e2 ⟨fun hf c hc hcc => ?_,fun hf=>⟨?_,fun c hc hcc => ?_⟩⟩
   ·rcases List.mem_append.1 hc with hc | hc
    ·exact hL.none hf c hc hcc
    ·simp at hc;subst hc;exact h ⟨hcc,.inl hf⟩
   ·obtain⟨c,hc,q⟩:=(hL.some hf).1;exact⟨c,by simp[hc],q⟩
   ·rcases List.mem_append.1 hc with hc | hc
    ·exact(hL.some hf).2 c hc hcc
    ·simp at hc;subst hc
     by_cases h3:nx≤c.f0
     ·exact h3
     ·exact absurd ⟨hcc,.inr (by omega)⟩ h
theorem tidy_l0_ref (l:List Z2) (hl:l.length<1000000) (hp:∀ b∈l,0<b.f1) (ht:cnt l<18446744073709551616):∀ (n:Nat) (o:List Z2) (hv:Bool) (last:Int),(l.filter (fun b=>decide (Cand hv last b))).length≤n→Z30 o→(∀ b∈o,¬ Cand hv last b)→(∀ i,tot o i=if hv=true∧i≤last then tot l i else 0)→o.length+n≤l.length →
  ∃ o',Z0w.l0 l o hv last=some (o',0)∧Z30 o'∧(∀ i,tot o' i=tot l i)∧o'.length≤l.length:=by
 have hn:Nn l:=fun b hb=>Int.le_of_lt (hp b hb)
 intro n
 induction n with
 | zero =>
  intro o hv last hm hc ho hto hln
  obtain⟨fd,nx,e,hL⟩:=tidy_l1 l o hv last hl l [] false 0 0 rfl rfl ⟨by simp,by simp⟩
  have hfd:fd=false:=by
   cases hfd:fd with
   | false=>rfl
   | true =>
    obtain⟨b,hb,hbc,_⟩:=(hL.some hfd).1
    have:b∈l.filter (fun b=>decide (Cand hv last b)):=List.mem_filter.2 ⟨hb,by simpa using hbc⟩
    have:=List.length_pos_of_mem this;omega
  rw[Z0w.l0,e,sb]
  simp only[hfd]
  rw[if_pos (by rfl)]
  refine⟨o,rfl,hc,fun i => ?_,by omega⟩
  rw[hto]
  by_cases h:hv=true∧i≤last
  ·rw[if_pos h]
  ·rw[if_neg h,tot_zero]
   rintro b hb rfl
   apply hL.none hfd b hb
   unfold Cand
   cases hv with
   | false=>exact .inl rfl
   | true=>right;by_cases h2:last<b.f0;exact h2;exact absurd ⟨rfl,by omega⟩ h
 | succ n ih =>
  intro o hv last hm hc ho hto hln
  obtain⟨fd,nx,e,hL⟩:=tidy_l1 l o hv last hl l [] false 0 0 rfl rfl ⟨by simp,by simp⟩
  cases hfd:fd with
  | false =>
   rw[Z0w.l0,e,sb]
   simp only[hfd]
   rw[if_pos (by rfl)]
   refine⟨o,rfl,hc,fun i => ?_,by omega⟩
   rw[hto]
   by_cases h:hv=true∧i≤last
   ·rw[if_pos h]
   ·rw[if_neg h,tot_zero]
    rintro b hb rfl
    apply hL.none hfd b hb
    unfold Cand
    cases hv with
    | false=>exact .inl rfl
    | true=>right;by_cases h2:last<b.f0;exact h2;exact absurd ⟨rfl,by omega⟩ h
  | true =>
   obtain⟨⟨b,hb,hbc,hbn⟩,hmin⟩:=hL.some hfd
   have hpos:0<tot l nx:=by have:=tot_mem hn hb;have:=hp b hb;rw[hbn] at *;omega
   rw[Z0w.l0,e,sb]
   simp only[hfd]
   rw[if_neg (by simp),together_eq l nx hl hn ht,sb,if_neg (by simp),if_pos (by simpa using hpos),chkB (by simp;omega),sb]
   have hlt:∀ c∈o,c.f0<nx:=fun c hc2=>by
    have:=ho c hc2
    unfold Cand at this hbc
    rcases hbc with h1 | h1
    ·exact absurd (.inl h1) this
    ·have:¬ last<c.f0:=fun h=>this (.inr h)
     omega
   refine ih (o++[⟨nx,tot l nx⟩]) true nx ?_ ?_ ?_ ?_ (by simp;omega)
   ·
    have hsub:(l.filter (fun b=>decide (Cand true nx b)))=(l.filter (fun b=>decide (Cand hv last b))).filter (fun b=>decide (nx<b.f0)):=by
     rw[List.filter_filter]
     apply List.filter_congr
     intro c hc2
     unfold Cand
     by_cases h1:nx<c.f0
     ·have:hv=false∨last<c.f0:=by
       unfold Cand at hbc
       rcases hbc with h2 | h2
       ·exact .inl h2
       ·exact .inr (by omega)
      simp[h1,this]
     ·simp[h1]
    rw[hsub]
    have hmem:b∈l.filter (fun b=>decide (Cand hv last b)):=List.mem_filter.2 ⟨hb,by simpa using hbc⟩
    have:((l.filter (fun b=>decide (Cand hv last b))).filter (fun b=>decide (nx<b.f0))).length<(l.filter (fun b=>decide (Cand hv last b))).length:=by
     rw[List.length_filter_lt_length_iff_exists]
     exact⟨b,hmem,by simp;omega⟩
    omega
   ·exact⟨List.pairwise_append.2 ⟨hc.up,List.pairwise_singleton _ _,fun c hc2 d hd=>by simp at hd;subst hd;exact hlt c hc2⟩,fun c hc2=>by
     rcases List.mem_append.1 hc2 with h | h
     ·exact hc.pos c h
     ·simp at h;subst h;exact hpos⟩
   ·intro c hc2 hcc
    unfold Cand at hcc
    rcases List.mem_append.1 hc2 with h | h
    ·have:=hlt c h;simp at hcc;omega
    ·simp at h;subst h;simp at hcc
   ·intro i
    rw[Z2c,Z70,hto]
    simp only[true_and]
    by_cases h1:i=nx
    ·subst h1
     have:¬ (hv=true∧i≤last):=by
      rintro⟨h2,h3⟩
      unfold Cand at hbc
      rcases hbc with h | h
      ·rw[h2] at h;cases h
      ·omega
     rw[if_neg this,if_pos rfl,if_pos (Int.le_refl _)];omega
    ·rw[if_neg (show ¬ nx=i from fun h=>h1 h.symm)]
     by_cases h2:i≤nx
     ·rw[if_pos h2]
      by_cases h3:hv=true∧i≤last
      ·rw[if_pos h3];omega
      ·rw[if_neg h3,tot_zero]
       ·rfl
       ·rintro c hc2 rfl
        have:Cand hv last c:=by
         unfold Cand
         cases hv with
         | false=>exact .inl rfl
         | true=>right;by_cases h4:last<c.f0;exact h4;exact absurd ⟨rfl,by omega⟩ h3
        have:=hmin c hc2 this;omega
     ·rw[if_neg h2,if_neg]
      ·rfl
      ·rintro⟨h3,h4⟩
       unfold Cand at hbc
       rcases hbc with h | h
       ·rw[h3] at h;cases h
       ·omega
theorem tidy_ref (l:List Z2) (hl:l.length<1000000) (hp:∀ b∈l,0<b.f1) (ht:cnt l<18446744073709551616) :
  ∃ o,Z0w.f l=some (o,0)∧Z30 o∧(∀ i,tot o i=tot l i)∧o.length≤l.length:=by
 unfold Z0w.f
 obtain⟨o,e,h⟩:=tidy_l0_ref l hl hp ht _ [] false 0 (List.length_filter_le _ _) ⟨List.Pairwise.nil,by simp⟩ (by simp) (by simp[tot]) (by simp)
 rw[e];exact⟨o,rfl,h⟩
theorem ref_of {s u k:Int} (hs:Z0p s) (hu : -262144<u∧u≤262144) (h1:(k-1)*stp s<u) (h2:u≤k*stp s):Z27.f s u=some (k,true):=by
 have hp:=Z3t s
 have hle:=stp_le hs
 have hk : -262144≤k∧k≤262145:=by
  constructor
  ·by_cases h:k < -262144
   ·have:=Int.mul_le_mul_of_nonneg_right (show k ≤ -262145 by omega) (Int.le_of_lt hp)
    have:=Int.mul_le_mul_of_nonneg_left (show 1≤stp s by omega) (show(0:Int)≤262145 by omega)
    omega
   ·omega
  ·by_cases h:262145<k
   ·have:=Int.mul_le_mul_of_nonneg_right (show 262145≤k-1 by omega) (Int.le_of_lt hp)
    have:=Int.mul_le_mul_of_nonneg_left (show 1≤stp s by omega) (show(0:Int)≤262145 by omega)
    omega
   ·omega
 have htd:Int.tdiv u (stp s)=k∨Int.tdiv u (stp s)=k-1:=by
  by_cases h0:0≤u
  ·rw[Int.tdiv_eq_ediv_of_nonneg h0]
   have e1:=Int.ediv_mul_le u (show stp s≠0 by omega)
   have e2:=Int.lt_ediv_add_one_mul_self u hp
   generalize u / stp s=q at *
   have a1:=Int.lt_of_mul_lt_mul_right (show(k-1)*stp s<(q+1)*stp s by omega) (Int.le_of_lt hp)
   have a2:=Int.le_of_mul_le_mul_right (show q*stp s≤k*stp s by omega) hp
   omega
  ·have e0:Int.tdiv u (stp s) = -((-u) / stp s):=by
    rw[← Int.tdiv_eq_ediv_of_nonneg (show 0 ≤ -u by omega),Int.neg_tdiv];omega
   rw[e0]
   have e1:=Int.ediv_mul_le (-u) (show stp s≠0 by omega)
   have e2:=Int.lt_ediv_add_one_mul_self (-u) hp
   generalize (-u) / stp s=q at *
   rw[Int.add_mul] at e2
   rw[Int.sub_mul] at h1
   have a1:=Int.le_of_mul_le_mul_right (show q*stp s≤(-(k-1))*stp s by rw[Int.neg_mul,Int.sub_mul];omega) hp
   have a2:=Int.lt_of_mul_lt_mul_right (show(-k)*stp s<(q+1)*stp s by rw[Int.neg_mul,Int.add_mul];omega) (Int.le_of_lt hp)
   by_cases hq:q = -k
   ·omega
   ·have:q=1-k:=by omega
    subst this
    rw[Int.sub_mul] at e1;omega
 have hU:∀ j:Int,j=k∨j=k-1→Z00.f s j=some (j*stp s):=fun j hj=>Z3m hs (by omega)
 have hl1:Z27.l1 s u k=some k:=by
  rw[Z27.l1,Zl (by omega) (by omega),hU _ (.inr rfl),sb,if_neg (by simp;omega)]
 have hl0k:Z27.l0 s u k=some k:=by
  rw[Z27.l0,hU _ (.inl rfl),sb,if_neg (by simp;omega)]
 have hl0:Z27.l0 s u (Int.tdiv u (stp s))=some k:=by
  rcases htd with h | h
  ·rw[h,hl0k]
  ·rw[h,Z27.l0,hU _ (.inr rfl),sb,if_pos (by simp;omega),Zl (by omega) (by omega),show k-1+1=k by omega,hl0k]
 unfold Z27.f
 rw[Z3g,sb,if_neg (by simp[hs]),if_neg (by simp;omega),sb,if_neg (by simp;omega),ref_step hs,sb,chkB (by omega),Zl (by rcases htd with h | h<;>omega) (by rcases htd with h | h<;>omega),hl0,sb,hl1,sb]
theorem ref_to {f t i:Int} (hf:Z0p f) (ht:Z0p t) (h:t≤f) (hi:InS f i):Z5b.f f t i=some (upI f t i,0):=by
 have hsm:=Z2s hi
 obtain⟨h3,h4⟩:=upI_spec f t i
 have hst:=stp_rat h hf.2
 have hp:=Z3t f
 unfold Z5b.f
 rw[Z3g,sb,if_neg (by simp[hf]),Z3g,sb,if_neg (by simp[ht]),sb,if_neg (by simp;omega),ref_in hf (inS_i64 hi),sb,if_neg (by simp[hi]),Z3m hf (by omega),sb,
  ref_of ht hi (k:=upI f t i) (by
   rw[hst,Int.mul_comm (stp f),← Int.mul_assoc]
   exact Int.mul_lt_mul_of_pos_right h3 hp) (by
   rw[hst,Int.mul_comm (stp f),← Int.mul_assoc]
   exact Int.mul_le_mul_of_nonneg_right h4 (Int.le_of_lt hp)),sb]
theorem coarse_l0 (l:List Z2) (f t:Int) (hf:Z0p f) (ht:Z0p t) (h:t≤f) (hl:l.length<1000000) (hi:∀ b∈l,InS f b.f0):∀ (suf pre o:List Z2) (i:Int),l=pre++suf→i=(pre.length:Int)→o.length=pre.length →
  Z16.l0 l f t o i=some (o++Z4d f t suf):=by
 intro suf
 induction suf with
 | nil=>intro pre o i h1 hi0 _;subst h1;rw[Z16.l0,if_neg (by simp[hi0])];simp[Z4d]
 | cons x suf ih =>
  intro pre o i h1 hi0 ho
  have hx:=hi x (by rw[h1];simp)
  have hlen:(l.length:Int)=pre.length+(suf.length+1):=by rw[h1];simp
  rw[Z16.l0,if_pos (by simp;omega),Z10 h1 hi0,sb,ref_to hf ht h hx,sb,chkB (by simp;omega),Zl (by omega) (by omega)]
  rw[ih (pre++[x]) _ (i+1) (by simp[h1]) (by simp;omega) (by simp;omega)]
  simp[Z4d]
theorem coarse_eq (l:List Z2) (f t:Int) (hf:Z0p f) (ht:Z0p t) (h:t≤f) (hc:Cs f l) (hct:cnt l<18446744073709551616) :
  ∃ o,Z16.f l f t=some o∧Z30 o∧(∀ i,tot o i=tot (Z4d f t l) i)∧o.length≤l.length:=by
 have hl:=hc.len
 have hd:=Z8h hf ht h hc
 obtain⟨o,e,h1,h2,h3⟩:=tidy_ref (Z4d f t l) (by rw[Z4l];omega) hd.pos (by rw[Z3n];exact hct)
 unfold Z16.f
 rw[coarse_l0 l f t hf ht h (by omega) hc.ins l [] [] 0 rfl rfl rfl,sb,List.nil_append,e]
 exact⟨o,rfl,h1,h2,by rw[Z4l] at h3;exact h3⟩
theorem within_l0 (s a:Int) (l:List Z2) (hs:Z0p s) (hl:l.length<1000000000) (hi:∀ b∈l,InS s b.f0):∀ (suf pre:List Z2) (i:Int),l=pre++suf→i=(pre.length:Int) →
  Z15.l0 s l a i=some (if Z2p s a suf then .inl (cg s a) else .inr ()):=by
 intro suf
 induction suf with
 | nil=>intro pre i h1 hi0;subst h1;rw[Z15.l0,if_neg (by simp[hi0]),if_neg (by simp[Z2p])]
 | cons x suf ih =>
  intro pre i h1 hi0
  have hx:=hi x (by rw[h1];simp)
  have hsm:=Z2s hx
  have hlen:(l.length:Int)=pre.length+(suf.length+1):=by rw[h1];simp
  rw[Z15.l0,if_pos (by simp;omega),Z10 h1 hi0,sb,sb,Zl (n:=x.f0-1) (by omega) (by omega),Z3m hs (i:=x.f0-1) (by omega),sb,Z3m hs (i:=x.f0) (by omega),sb,sb,ifand,sb]
  by_cases hc:(x.f0-1)*stp s<a∧a<x.f0*stp s
  ·rw[if_pos (by simpa using hc),if_pos ⟨x,by simp,hc⟩,cg_eq hc.1 (by omega)]
  ·rw[if_neg (by simpa using hc),Zl     (by omega) (by omega),ih (pre++[x]) (i+1) (by simp[h1]) (by simp;omega)]
   have:Z2p s a (x::suf)↔Z2p s a suf:=by
    constructor
    ·rintro⟨b,hb,h⟩
     rcases List.mem_cons.1 hb with rfl | hb
     ·exact absurd h hc
     ·exact⟨b,hb,h⟩
    ·rintro⟨b,hb,h⟩;exact⟨b,by simp[hb],h⟩
   by_cases hst:Z2p s a suf
   ·rw[if_pos hst,if_pos (this.2 hst)]
   ·rw[if_neg hst,if_neg (fun q=>hst (this.1 q))]
theorem within_eq (s a:Int) (l:List Z2) (hs:Z0p s) (hl:l.length<1000000000) (hi:∀ b∈l,InS s b.f0):Z15.f s l a=some (if Z2p s a l then cg s a else a):=by
 unfold Z15.f
 rw[within_l0 s a l hs hl hi l [] 0 rfl rfl,sb]
 by_cases hst:Z2p s a l
 ·rw[if_pos hst,if_pos hst]
 ·rw[if_neg hst,if_neg hst]
theorem rsw_l0 (h:Ze) (a:Int) (hs:Z0p h.f1) (hl:h.f6.length<1000000) (hi:∀ b∈h.f6,InS h.f1 b.f0) (hU:∀ b∈h.f6,0≤b.f1):∀ (suf pre:List Z2) (z:Int) (o:List Z2) (i:Int),h.f6=pre++suf→i=(pre.length:Int)→0≤z→z+cnt suf<18446744073709551616→o.length≤pre.length →
  Z05.l0 h a z o i=some (z+cnt (Z4c h.f1 a suf),o++Z3v h.f1 a suf):=by
 intro suf
 induction suf with
 | nil=>intro pre z o i h1 hi0 _ _ _;rw[Z05.l0,if_neg (by rw[h1];simp[hi0])];simp[cnt]
 | cons x suf ih =>
  intro pre z o i h1 hi0 h0 hz ho
  have hx:=hi x (by rw[h1];simp)
  have hsm:=Z2s hx
  have hx1:=hU x (by rw[h1];simp)
  have hn:0≤cnt suf:=Z0i (fun b hb=>hU b (by rw[h1];simp[hb]))
  have hlen:(h.f6.length:Int)=pre.length+(suf.length+1):=by rw[h1];simp
  rw[Z3c] at hz
  rw[Z05.l0,if_pos (by simp;omega),Z10 h1 hi0,sb,Z3m hs (by omega),sb,Zl (by omega) (by omega)]
  by_cases hc:a<x.f0*stp h.f1
  ·rw[if_neg (by simp;omega),chkB (by simp;omega),sb]
   simp only[]
   rw[ih (pre++[x]) z (o++[x]) (i+1) (by simp[h1]) (by simp;omega) h0 (by omega) (by simp;omega)]
   simp[hc]
  ·rw[if_pos (by simp;omega),Z7z   (by omega) (by omega),sb]
   simp only[]
   rw[ih (pre++[x]) (z+x.f1) o (i+1) (by simp[h1]) (by simp;omega) (by omega) (by omega) (by simp;omega)]
   rw[show Z3v h.f1 a (x::suf)=Z3v h.f1 a suf from List.filter_cons_of_neg (by simpa using hc),show Z4c h.f1 a (x::suf)=x::Z4c h.f1 a suf from List.filter_cons_of_pos (by simpa using hc),Z3c,Int.add_assoc]
theorem rsw_l1 (h:Ze) (a:Int) (q:List Z2) (hs:Z0p h.f1) (hl:h.f7.length<1000000) (hi:∀ b∈h.f7,InS h.f1 b.f0) (hU:∀ b∈h.f7,0≤b.f1):∀ (suf pre:List Z2) (z:Int) (o:List Z2) (i:Int),h.f7=pre++suf→i=(pre.length:Int)→0≤z→z+cnt suf<18446744073709551616→o.length≤pre.length →
  Z05.l1 h a q z o i=some (z+cnt (Z4c h.f1 a suf),o++Z3v h.f1 a suf):=by
 intro suf
 induction suf with
 | nil=>intro pre z o i h1 hi0 _ _ _;rw[Z05.l1,if_neg (by rw[h1];simp[hi0])];simp[cnt]
 | cons x suf ih =>
  intro pre z o i h1 hi0 h0 hz ho
  have hx:=hi x (by rw[h1];simp)
  have hsm:=Z2s hx
  have hx1:=hU x (by rw[h1];simp)
  have hn:0≤cnt suf:=Z0i (fun b hb=>hU b (by rw[h1];simp[hb]))
  have hlen:(h.f7.length:Int)=pre.length+(suf.length+1):=by rw[h1];simp
  rw[Z3c] at hz
  rw[Z05.l1,if_pos (by simp;omega),Z10 h1 hi0,sb,Z3m hs (by omega),sb,Zl (by omega) (by omega)]
  by_cases hc:a<x.f0*stp h.f1
  ·rw[if_neg (by simp;omega),chkB (by simp;omega),sb]
   simp only[]
   rw[ih (pre++[x]) z (o++[x]) (i+1) (by simp[h1]) (by simp;omega) h0 (by omega) (by simp;omega)]
   simp[hc]
  ·rw[if_pos (by simp;omega),Z7z   (by omega) (by omega),sb]
   simp only[]
   rw[ih (pre++[x]) (z+x.f1) o (i+1) (by simp[h1]) (by simp;omega) (by omega) (by omega) (by simp;omega)]
   rw[show Z3v h.f1 a (x::suf)=Z3v h.f1 a suf from List.filter_cons_of_neg (by simpa using hc),show Z4c h.f1 a (x::suf)=x::Z4c h.f1 a suf from List.filter_cons_of_pos (by simpa using hc),Z3c,Int.add_assoc]
noncomputable def rsw (h:Ze) (a:Int):Ze:=⟨h.f0,h.f1,zAt h.f1 a h.f6 h.f7,h.f3+cnt (Z4c h.f1 (zAt h.f1 a h.f6 h.f7) h.f6)+cnt (Z4c h.f1 (zAt h.f1 a h.f6 h.f7) h.f7),h.f4,h.f5,Z3v h.f1 (zAt h.f1 a h.f6 h.f7) h.f6,Z3v h.f1 (zAt h.f1 a h.f6 h.f7) h.f7⟩
theorem rsw_eq (h:Ze) (a:Int) (hs:Z0p h.f1) (hp:Cs h.f1 h.f6) (hn:Cs h.f1 h.f7) (h3:0≤h.f3) (ht:cnt h.f6+cnt h.f7+h.f3<18446744073709551616):Z05.f h a=some (rsw h a):=by
 have l1:=hp.len
 have l2:=hn.len
 have c1:=Z0i hp.nn
 have c2:=Z0i hn.nn
 have d1:cnt (Z3v h.f1 (zAt h.f1 a h.f6 h.f7) h.f6)+cnt (Z4c h.f1 (zAt h.f1 a h.f6 h.f7) h.f6)=cnt h.f6:=Z52 h.f6 _
 have e1:=Z0i (l:=Z3v h.f1 (zAt h.f1 a h.f6 h.f7) h.f6) (fun b hb=>hp.nn b (List.mem_filter.1 hb).1)
 have e2:=Z0i (l:=Z4c h.f1 (zAt h.f1 a h.f6 h.f7) h.f6) (fun b hb=>hp.nn b (List.mem_filter.1 hb).1)
 have hmax:((if(decide ((if Z2p h.f1 a h.f7 then cg h.f1 a else a)>(if Z2p h.f1 a h.f6 then cg h.f1 a else a)))=true then(some (if Z2p h.f1 a h.f7 then cg h.f1 a else a)) else(some (if Z2p h.f1 a h.f6 then cg h.f1 a else a))):Option Int)=some (zAt h.f1 a h.f6 h.f7):=by
  rw[← zAt_max]
  by_cases h:(if Z2p h.f1 a h.f7 then cg h.f1 a else a)>(if Z2p h.f1 a h.f6 then cg h.f1 a else a)
  ·rw[if_pos (by simpa using h),if_pos h]
  ·rw[if_neg (by simpa using h),if_neg h]
 unfold Z05.f
 rw[within_eq h.f1 a h.f6 hs (by omega) hp.ins,within_eq h.f1 a h.f7 hs (by omega) hn.ins,sb,sb,hmax,sb,rsw_l0 h _ hs (by omega) hp.ins hp.nn h.f6 [] h.f3 [] 0 rfl rfl h3 (by omega) (Nat.le_refl _),sb]
 simp only[List.nil_append]
 rw[rsw_l1 h _ _ hs (by omega) hn.ins hn.nn h.f7 [] _ [] 0 rfl rfl (by omega) (by omega) (Nat.le_refl _),sb]
 simp only[List.nil_append]
 rfl
theorem Z7u {s a:Int} {l l':List Z2} (hp:∀ b∈l,0<b.f1) (h:∀ i,tot l i=tot l' i) (hs:Z2p s a l):Z2p s a l':=by
 obtain⟨b,hb,h1⟩:=hs
 by_cases hc:∃ c∈l',c.f0=b.f0
 ·obtain⟨c,hc,e⟩:=hc;exact⟨c,hc,e ▸ h1⟩
 ·have h2:=tot_mem (fun b hb=>Int.le_of_lt (hp b hb)) hb
  rw[h,tot_zero (fun c hc2 e=>hc ⟨c,hc2,e⟩)] at h2
  have:=hp b hb;omega
theorem zAt_congr {s a:Int} {p n p' n':List Z2} (hp:∀ b∈p,0<b.f1) (hn:∀ b∈n,0<b.f1) (hp':∀ b∈p',0<b.f1) (hn':∀ b∈n',0<b.f1) (h1:∀ i,tot p i=tot p' i) (h2:∀ i,tot n i=tot n' i):zAt s a p n=zAt s a p' n':=by
 unfold zAt
 have e1:Z2p s a p↔Z2p s a p':=⟨Z7u hp h1,Z7u hp' (fun i=>(h1 i).symm)⟩
 have e2:Z2p s a n↔Z2p s a n':=⟨Z7u hn h2,Z7u hn' (fun i=>(h2 i).symm)⟩
 by_cases h:Z2p s a p∨Z2p s a n
 ·rw[if_pos h,if_pos (by rw[← e1,← e2];exact h)]
 ·rw[if_neg h,if_neg (by rw[← e1,← e2];exact h)]
theorem swal_rsw {h g:Ze} {p n:List Z2} {a:Int} {r:Ze} (w:Swal h p n a r) (hp:∀ b∈p,0<b.f1) (hn:∀ b∈n,0<b.f1) (c6:Z30 g.f6) (c7:Z30 g.f7) (t6:∀ i,tot g.f6 i=tot p i) (t7:∀ i,tot g.f7 i=tot n i)
  (e0:g.f0=h.f0) (e1:g.f1=h.f1) (e3:g.f3=h.f3) (e4:g.f4=cnt p+cnt n+h.f3) (e5:g.f5=h.f5):rsw g a=r:=by
 have hz:zAt g.f1 a g.f6 g.f7=zAt h.f1 a p n:=by rw[e1];exact zAt_congr c6.pos c7.pos hp hn t6 t7
 have k6:Z30 (Z3v h.f1 (zAt h.f1 a p n) g.f6):=⟨c6.up.filter _,fun b hb=>c6.pos b (List.mem_filter.1 hb).1⟩
 have k7:Z30 (Z3v h.f1 (zAt h.f1 a p n) g.f7):=⟨c7.up.filter _,fun b hb=>c7.pos b (List.mem_filter.1 hb).1⟩
 have q6:Z3v h.f1 (zAt h.f1 a p n) g.f6=r.f6:=Z48 k6 w.valid.pos.canon (fun i=>by rw[w.tpos,Z4w g.f6 (Z8n h.f1 (zAt h.f1 a p n)) i,t6])
 have q7:Z3v h.f1 (zAt h.f1 a p n) g.f7=r.f7:=Z48 k7 w.valid.neg.canon (fun i=>by rw[w.tneg,Z4w g.f7 (Z8n h.f1 (zAt h.f1 a p n)) i,t7])
 have d6:cnt (Z3v h.f1 (zAt h.f1 a p n) g.f6)+cnt (Z4c h.f1 (zAt h.f1 a p n) g.f6)=cnt g.f6:=Z52 g.f6 _
 have d7:cnt (Z3v h.f1 (zAt h.f1 a p n) g.f7)+cnt (Z4c h.f1 (zAt h.f1 a p n) g.f7)=cnt g.f7:=Z52 g.f7 _
 have m6:=Z3o t6
 have m7:=Z3o t7
 have hc:=w.valid.count
 have hcc:=w.count
 rw[← q6,← q7] at hc
 unfold rsw
 rw[hz,e1]
 exact hist_ext (e0.trans w.kind.symm) w.schema.symm w.zeroAt.symm (by simp only;omega) (by simp only;rw[e4,w.count]) (e5.trans w.sum.symm) q6 q7
theorem ref_Down (a:Ze) (s:Int) (hv:Z1q a) (hf:Fits a):∃ r e,Z1p.f a s=some (r,e)∧Z2e.f a s=some (r,e):=by
 by_cases h:Z0p s∧s≤a.f1
 case neg =>
  refine⟨h0,20,Down_bad a s h,?_⟩
  unfold Z2e.f
  by_cases hs:Z0p s
  ·rw[Z3g,sb,if_neg (by simp[hs]),sb,if_pos (by simp;have:¬ s≤a.f1:=fun q=>h ⟨hs,q⟩;omega)];rfl
  ·rw[Z3g,sb,if_pos (by simp[hs]),sb,if_pos rfl];rfl
 obtain⟨hs,hle⟩:=h
 have l1:=hv.pos.len
 have l2:=hv.neg.len
 have h1:=hv.count
 have h2:=hv.total
 have p6:=Z8h hv.schema hs hle (Z3e hv.pos)
 have p7:=Z8h hv.schema hs hle (Z3e hv.neg)
 have n6:=Z0i hv.pos.canon.nn
 have n7:=Z0i hv.neg.canon.nn
 have hz:=hf.zero.1
 obtain⟨r,e,w⟩:=Z72 (⟨a.f0,s,a.f2,a.f3,a.f4,a.f5,a.f6,a.f7⟩:Ze) (Z4d a.f1 s a.f6) (Z4d a.f1 s a.f7) a.f2 hv.kind hs hv.zero hz hf.sum p6 p7
  (by rw[Z4l];exact l1) (by rw[Z4l];exact l2) (by rw[Z3n,Z3n];exact h2)
 refine⟨r,0,?_,?_⟩
 ·unfold         Z1p.f
  rw[Z4t hs,sb,if_neg (by simp),sb,if_neg (by simp;omega),down_eq a.f6 a.f1 s hv.schema hs hle (by omega) (Z3e hv.pos).ins,down_eq a.f7 a.f1 s hv.schema hs hle (by omega) (Z3e hv.neg).ins,sb,sb,e]
  rfl
 ·obtain⟨o6,e6,c6,t6,m6⟩:=coarse_eq a.f6 a.f1 s hv.schema hs hle (Z3e     hv.pos) (by omega)
  obtain⟨o7,e7,c7,t7,m7⟩:=coarse_eq a.f7 a.f1 s hv.schema hs hle (Z3e hv.neg) (by omega)
  have cs6:Cs s o6:=⟨by omega,fun b hb=>by
   by_cases hc:∃ x∈Z4d a.f1 s a.f6,x.f0=b.f0
   ·obtain⟨x,hx,e⟩:=hc;rw[← e];exact p6.ins x hx
   ·have h3:=t6 b.f0
    rw[c6.tot_of hb,tot_zero (fun x hx e=>hc ⟨x,hx,e⟩)] at h3
    have:=c6.pos b hb;omega,c6.pos⟩
  have cs7:Cs s o7:=⟨by omega,fun b hb=>by
   by_cases hc:∃ x∈Z4d a.f1 s a.f7,x.f0=b.f0
   ·obtain⟨x,hx,e⟩:=hc;rw[← e];exact p7.ins x hx
   ·have h3:=t7 b.f0
    rw[c7.tot_of hb,tot_zero (fun x hx e=>hc ⟨x,hx,e⟩)] at h3
    have:=c7.pos b hb;omega,c7.pos⟩
  have q6:=Z3o t6
  have q7:=Z3o t7
  rw[Z3n] at q6 q7
  unfold Z2e.f
  rw[Z3g,sb,if_neg (by simp[hs]),sb,if_neg (by simp;omega),e6,e7,sb,sb,rsw_eq (⟨a.f0,s,a.f2,a.f3,a.f4,a.f5,o6,o7⟩:Ze) a.f2 hs cs6 cs7 hz (by simp only;omega),sb]
  rw[swal_rsw (g:=(⟨a.f0,s,a.f2,a.f3,a.f4,a.f5,o6,o7⟩:Ze)) w p6.pos p7.pos c6 c7 t6 t7 rfl rfl rfl (by simp only[Z3n];exact h1) rfl]
theorem ref_Widen (a:Ze) (z:Int) (hv:Z1q a) (hf:Fits a):∃ r e,Z0x.f a z=some (r,e)∧Z2l.f a z=some (r,e):=by
 by_cases h1:z=a.f2
 ·subst h1
  refine⟨a,0,Z3d a hv,?_⟩
  unfold Z2l.f
  rw[if_neg (by simp),if_neg (by simp),sb,if_neg (by simp),if_pos (by simp)]
 by_cases h2:a.f2<z ∧ -262144<z∧z≤262144
 ·obtain⟨r,e,w⟩:=Z3y        a z hv hf h2.2 h2.1
  refine⟨r,0,e,?_⟩
  have hc:=hv.count
  unfold Z2l.f
  rw[if_neg (by simp;omega),if_pos (by simpa using h1),if_neg (by simp;omega),sb,if_neg (by simp;omega),if_neg (by simpa using h1),rsw_eq a z hv.schema (Z3e hv.pos) (Z3e hv.neg) hf.zero.1 hv.total,sb,
   swal_rsw (g:=a) w (Z3e hv.pos).pos (Z3e hv.neg).pos hv.pos.canon hv.neg.canon (fun _=>rfl) (fun _=>rfl) rfl rfl rfl hc rfl]
 ·refine⟨h0,31,Z8p       a z (by by_cases h3:z<a.f2;exact .inl h3;exact .inr ⟨h1,fun q=>h2 ⟨by omega,q⟩⟩),?_⟩
  unfold Z2l.f
  by_cases h3:z<a.f2
  ·rw[if_pos (by simpa using h3),sb,if_pos rfl];rfl
  ·rw[if_neg (by simpa using h3),if_pos (by simpa using h1)]
   have:((if(decide (z≤(-262144)))=true then(some true) else(some (decide (z>(262144:Int))))):Option (Bool))=some true:=by
    by_cases h4:z ≤ -262144
    ·rw[if_pos (by simpa using h4)]
    ·rw[if_neg (by simpa using h4)];simp;omega
   rw[this,sb,if_pos rfl];rfl
end Go.Proofs.YtlclecehlekjoaaGreat.PvGK
set_option linter.unusedVariables false
set_option linter.unusedSimpArgs false
namespace Go.Proofs.YtlclecehlekjoaaGreat.PvGK
open Go Go.Pv Go.Pv.GS Go.IntKind
open Classical
theorem Z8o (a r:Ze) (z:Int) (hv:Z1q a) (hf:Fits a) (h:Z0x.f a z=some (r,0)):Z1q r∧Fits r:=by
 by_cases h1:z=a.f2
 ·subst h1;rw[Z3d a hv] at h;simp at h;subst h;exact⟨hv,hf⟩
 by_cases h2:a.f2<z ∧ -262144<z∧z≤262144
 ·obtain⟨r',e,w⟩:=Z3y        a z hv hf h2.2 h2.1
  rw[e] at h;simp at h;subst h;exact⟨w.valid,w.fits⟩
 ·rw[Z8p       a z (by by_cases h3:z<a.f2;exact .inl h3;exact .inr ⟨h1,fun q=>h2 ⟨by omega,q⟩⟩)] at h
  simp at h
theorem Z98 (a r:Ze) (z e:Int) (hv:Z1q a) (hf:Fits a) (h:Z0x.f a z=some (r,e)):e=0∨e=31:=by
 by_cases h1:z=a.f2
 ·subst h1;rw[Z3d a hv] at h;simp at h;exact .inl h.2.symm
 by_cases h2:a.f2<z ∧ -262144<z∧z≤262144
 ·obtain⟨r',e',w⟩:=Z3y        a z hv hf h2.2 h2.1
  rw[e'] at h;simp at h;exact .inl h.2.symm
 ·rw[Z8p       a z (by by_cases h3:z<a.f2;exact .inl h3;exact .inr ⟨h1,fun q=>h2 ⟨by omega,q⟩⟩)] at h
  simp at h;exact .inr h.2.symm
theorem Z8r (p q p' q':Ze) (hp:Z1q p) (fp:Fits p) (hq:Z1q q) (fq:Fits q)
  (h:Z07.l0 (p.f0,p.f1,p.f2,p.f3,p.f4,p.f5,p.f6,p.f7,q.f0,q.f1,q.f2,q.f3,q.f4,q.f5,q.f6,q.f7)=some (.inr (p'.f0,p'.f1,p'.f2,p'.f3,p'.f4,p'.f5,p'.f6,p'.f7,q'.f0,q'.f1,q'.f2,q'.f3,q'.f4,q'.f5,q'.f6,q'.f7))) :
  Z1g.l0 (p.f0,p.f1,p.f2,p.f3,p.f4,p.f5,p.f6,p.f7,q.f0,q.f1,q.f2,q.f3,q.f4,q.f5,q.f6,q.f7)=some (p'.f0,p'.f1,p'.f2,p'.f3,p'.f4,p'.f5,p'.f6,p'.f7,q'.f0,q'.f1,q'.f2,q'.f3,q'.f4,q'.f5,q'.f6,q'.f7):=by
 refine Z07.l0.partial_correctness (motive:=fun v o=>∀ p q:Ze,v=(p.f0,p.f1,p.f2,p.f3,p.f4,p.f5,p.f6,p.f7,q.f0,q.f1,q.f2,q.f3,q.f4,q.f5,q.f6,q.f7)→Z1q p→Fits p→Z1q q→Fits q →
  o = .inr (p'.f0,p'.f1,p'.f2,p'.f3,p'.f4,p'.f5,p'.f6,p'.f7,q'.f0,q'.f1,q'.f2,q'.f3,q'.f4,q'.f5,q'.f6,q'.f7)→Z1g.l0 v=some (p'.f0,p'.f1,p'.f2,p'.f3,p'.f4,p'.f5,p'.f6,p'.f7,q'.f0,q'.f1,q'.f2,q'.f3,q'.f4,q'.f5,q'.f6,q'.f7)) ?_ _ _ h p q rfl hp fp hq fq rfl
 clear h hp fp hq fq p q
 intro self ih v o H p q hv hp fp hq fq ho
 subst hv;subst ho
 dsimp only at H
 rw[Z1g.l0]
 dsimp only
 by_cases hz:p.f2=q.f2
 ·rw[if_neg (by simpa using hz)] at H ⊢
  simpa using H
 ·rw[if_pos (by simpa using hz)] at H ⊢
  obtain⟨⟨r1,e1⟩,w1,H⟩:=Z3 H
  obtain⟨⟨r2,e2⟩,w2,H⟩:=Z3 H
  dsimp only at H
  have he:e1=0∧e2=0:=by
   rcases Z98 p r1 _ e1 hp fp w1 with h1 | h1<;>rcases Z98 q r2 _ e2 hq fq w2 with h2 | h2<;>subst h1<;>subst h2<;>simp at H ⊢
  obtain⟨rfl,rfl⟩:=he
  rw[if_neg (by simp)] at H
  have v1:=Z8o p r1 _ hp fp w1
  have v2:=Z8o q r2 _ hq fq w2
  have key:=ih _ _ H r1 r2 rfl v1.1 v1.2 v2.1 v2.2 rfl
  by_cases hlt:p.f2<q.f2
  ·rw[if_pos (show q.f2>p.f2 from hlt)] at w1 w2
   rw[Z3d q hq] at w2
   simp at w2;subst w2
   obtain⟨r,e,g1,g2⟩:=ref_Widen p q.f2 hp fp
   rw[w1] at g1;simp at g1
   obtain⟨rfl,rfl⟩:=g1
   rw[if_pos (by simpa using hlt),g2,sb,sb]
   exact key
  ·rw[if_neg (show ¬ q.f2>p.f2 from hlt)] at w1 w2
   rw[Z3d p hp] at w1
   simp at w1;subst w1
   obtain⟨r,e,g1,g2⟩:=ref_Widen q p.f2 hq fq
   rw[w2] at g1;simp at g1
   obtain⟨rfl,rfl⟩:=g1
   rw[if_neg (by simpa using hlt),g2,sb,sb]
   exact key
theorem ref_Alike (a b:Ze) (ha:Z1q a) (fa:Fits a) (hb:Z1q b) (fb:Fits b):∃ p q,Z07.f a b=some (p,q,0)∧Z1g.f a b=some (p,q)∧Z1q p∧Z1q q∧p.f2=q.f2∧p.f1=q.f1:=by
 have hs:Z0p (if b.f1<a.f1 then b.f1 else a.f1):=by split;exact hb.schema;exact ha.schema
 obtain⟨p0,e1,c1⟩:=Down_eq a _ ha fa hs (by split<;>omega)
 obtain⟨q0,e2,c2⟩:=Down_eq b _ hb fb hs (by split<;>omega)
 have c1':=c1
 have c2':=c2
 rw[← c1.zeroAt] at c1'
 rw[← c2.zeroAt] at c2'
 obtain⟨p,q,z,el,cp,cq,hz⟩:=Z97 a b p0 q0 _ _ _ c1' c2'
 refine⟨p,q,?_,?_,cp.valid,cq.valid,cp.zeroAt.trans cq.zeroAt.symm,cp.schema.trans cq.schema.symm⟩
 ·unfold          Z07.f
  rw[e1,sb,e2,sb,if_neg (by simp)]
  (try simp only[])
  rw[el]
  rfl
 ·have rl:=Z8r            p0 q0 p q c1.valid c1.fits c2.valid c2.fits el
  obtain⟨r1,g1,d1,d2⟩:=ref_Down a (if b.f1<a.f1 then b.f1 else a.f1) ha fa
  obtain⟨r2,g2,d3,d4⟩:=ref_Down b (if b.f1<a.f1 then b.f1 else a.f1) hb fb
  rw[e1] at d1;simp at d1;obtain⟨rfl,rfl⟩:=d1
  rw[e2] at d3;simp at d3;obtain⟨rfl,rfl⟩:=d3
  unfold Z1g.f
  by_cases hlt:a.f1<b.f1
  ·rw[if_neg (show ¬ b.f1<a.f1 by omega)] at d2 d4
   rw[if_pos (by simpa using hlt),d4,sb,d2,sb,sb]
   dsimp only
   rw[rl];rfl
  ·by_cases hlt2:b.f1<a.f1
   ·rw[if_pos hlt2] at d2 d4
    rw[if_neg (by simpa using hlt),d2,sb,d4,sb,sb]
    dsimp only
    rw[rl];rfl
   ·have heq:a.f1=b.f1:=by omega
    rw[if_neg hlt2] at d2 d4
    rw[if_neg (by simpa using hlt),← heq,d2,sb,d4,sb,sb]
    dsimp only
    rw[rl];rfl
end Go.Proofs.YtlclecehlekjoaaGreat.PvGK
set_option linter.unusedVariables false
set_option linter.unusedSimpArgs false
namespace Go.Proofs.YtlclecehlekjoaaGreat.PvGK
open Go Go.Pv Go.Pv.GS Go.IntKind
theorem subint {a b:Int} (ha:I64 a) (hb:I64 b):Z37.f a b=some (if I64 (a-b) then(a-b,0) else(0,5)):=by
 unfold Z37.f
 rw[wrap64_eq]
 by_cases hI:I64 (a-b)
 ·rw[if_pos hI]
  have e:(a-b+9223372036854775808) % 18446744073709551616-9223372036854775808=a-b:=by omega
  rw[e,if_neg]
  by_cases h:a<b
  ·simp[h]<;>omega
  ·simp[h];omega
 ·rw[if_neg hI,if_pos]
  by_cases h:a<b
  ·simp[h];omega
  ·simp[h];omega
theorem num_sub {a b:Int} (ha:U64 a) (hb:U64 b):Z4j.f a b=some (if b≤a then(a-b,0) else(0,5)):=by
 unfold Z4j.f
 by_cases h:b≤a
 ·rw[if_neg (by simp;omega),if_pos h,Z7z (by omega) (by omega)]
 ·rw[if_pos (by simp;omega),if_neg h]
theorem halves_eq {x:Int} (hx:I64 x):((if(decide ((Int.tmod x (4294967296:Int))<(0:Int)))=true then(some (i64.wrap ((i64.wrap (Int.tdiv x (4294967296:Int)))-(1:Int)),i64.wrap ((Int.tmod x (4294967296:Int))+(4294967296:Int)))) else(some (i64.wrap (Int.tdiv x (4294967296:Int)),Int.tmod x (4294967296:Int)))):Option (Int×Int))=some (x / 4294967296,x % 4294967296):=by
 by_cases h0:0≤x
 ·rw[Int.tdiv_eq_ediv_of_nonneg h0,Int.tmod_eq_emod_of_nonneg h0,if_neg (by simp;omega),Zl (by omega) (by omega)]
 ·have e1:Int.tdiv x 4294967296 = -((-x) / 4294967296):=by
   rw[← Int.tdiv_eq_ediv_of_nonneg (show 0 ≤ -x by omega),Int.neg_tdiv];omega
  have e2:Int.tmod x 4294967296 = -((-x) % 4294967296):=by
   rw[← Int.tmod_eq_emod_of_nonneg (show 0 ≤ -x by omega),Int.neg_tmod];omega
  rw[e1,e2]
  by_cases h1:(-x) % 4294967296=0
  ·rw[if_neg (by simp;omega),Zl     (by omega) (by omega)]
   congr 2<;>omega
  ·rw[if_pos (by simp;omega),Zl     (n:=-(-x / 4294967296)) (by omega) (by omega),Zl     (by omega) (by omega),Zl     (by omega) (by omega)]
   congr 2<;>omega
theorem raddint_l0 (l:List Int) (hl:l.length<1000):∀ (suf pre:List Int) (hi lo i:Int),l=pre++suf→i=(pre.length:Int)→0≤lo→lo≤4294967296*pre.length → -(2147483648*(pre.length:Int))≤hi→hi≤2147483648*pre.length→(∀ x∈suf,I64 x) →
  ∃ hi' lo',Z1h.l0 l hi lo i=some (hi',lo')∧0≤lo'∧lo'≤4294967296*l.length∧hi'*4294967296+lo'=hi*4294967296+lo+suf.sum ∧ -(2147483648*(l.length:Int))≤hi'∧hi'≤2147483648*l.length:=by
 intro suf
 induction suf with
 | nil =>
  intro pre hi lo i h1 hi0 h2 h3 ha hb _
  rw[List.append_nil] at h1;subst h1
  rw[Z1h.l0,if_neg (by simp[hi0])]
  exact⟨hi,lo,rfl,h2,h3,by simp,ha,hb⟩
 | cons x suf ih =>
  intro pre hi lo i h1 hi0 h2 h3 ha hb hs
  have hx:=hs x (by simp)
  have hlen:(l.length:Int)=pre.length+(suf.length+1):=by rw[h1];simp
  rw[Z1h.l0,if_pos (by simp;omega),Z10 h1 hi0,sb,halves_eq hx,sb]
  simp only[]
  rw[Zl (n:=i+1) (by omega) (by omega),Zl (n:=hi+_) (by omega) (by omega),Zl (n:=lo+_) (by omega) (by omega)]
  obtain⟨hi',lo',e,g1,g2,g3,g4,g5⟩:=ih (pre++[x]) (hi+x / 4294967296) (lo+x % 4294967296) (i+1) (by simp[h1]) (by simp;omega) (by omega) (by simp;omega) (by simp;omega) (by simp;omega) (fun y hy=>hs y (by simp[hy]))
  refine⟨hi',lo',e,g1,g2,?_,g4,g5⟩
  rw[g3,List.sum_cons];omega
theorem raddint (l:List Int) (hl:l.length<1000) (h:∀ x∈l,I64 x):Z1h.f l=some (if I64 l.sum then(l.sum,0) else(0,5)):=by
 unfold Z1h.f
 obtain⟨hi,lo,e,g1,g2,g3,g4,g5⟩:=raddint_l0 l hl l [] 0 0 0 rfl rfl (by omega) (by simp) (by simp) (by simp) h
 rw[e,sb]
 simp only[]
 simp only[Int.zero_mul,Int.zero_add] at g3
 rw[Int.tdiv_eq_ediv_of_nonneg g1,Int.tmod_eq_emod_of_nonneg g1,Zl (n:=lo / 4294967296) (by omega) (by omega),Zl (n:=hi+_) (by omega) (by omega),ifor,sb]
 by_cases hI:I64 l.sum
 ·rw[if_pos hI,if_neg (by simp;omega),Zl     (n:=(hi+_)*_) (by omega) (by omega),Zl     (by omega) (by omega)]
  congr 2;omega
 ·rw[if_neg hI,if_pos (by simp;omega)]
end Go.Proofs.YtlclecehlekjoaaGreat.PvGK
set_option linter.unusedVariables false
set_option linter.unusedSimpArgs false
namespace Go.Proofs.YtlclecehlekjoaaGreat.PvGK
open Go Go.Pv Go.Pv.GS Go.IntKind
open Classical
structure Pair (p q:Ze):Prop where
 vp:Z1q p
 vq:Z1q q
 fp:Fits p
 fq:Fits q
 schema:p.f1=q.f1
 zeroAt:p.f2=q.f2
theorem Alike_pair (a b:Ze) (ha:Z1q a) (fa:Fits a) (hb:Z1q b) (fb:Fits b) :
  ∃ p q s z,Z07.f a b=some (p,q,0)∧Z1g.f a b=some (p,q)∧Cut a s z p∧Cut b s z q∧Pair p q:=by
 obtain⟨p0,q0,p,q,s,z,_,_,_,_,_,e,cp,cq,_⟩:=Alike_eq a b ha fa hb fb
 obtain⟨p',q',e',r',_⟩:=ref_Alike a b ha fa hb fb
 rw[e] at e';simp at e'
 obtain⟨rfl,rfl⟩:=e'
 exact⟨p,q,s,z,e,r',cp,cq,cp.valid,cq.valid,cp.fits,cq.fits,cp.schema.trans cq.schema.symm,cp.zeroAt.trans cq.zeroAt.symm⟩
structure Sumd (p q r:Ze):Prop where
 valid:Z1q r
 fits:Fits r
 kind:r.f0=if q.f0>p.f0 then q.f0 else p.f0
 schema:r.f1=p.f1
 zeroAt:r.f2=p.f2
 zero:r.f3=p.f3+q.f3
 count:r.f4=p.f4+q.f4
 sum:r.f5=p.f5+q.f5
 tpos:∀ i,tot r.f6 i=tot p.f6 i+tot q.f6 i
 tneg:∀ i,tot r.f7 i=tot p.f7 i+tot q.f7 i
end Go.Proofs.YtlclecehlekjoaaGreat.PvGK
set_option linter.unusedVariables false
set_option linter.unusedSimpArgs false
namespace Go.Proofs.YtlclecehlekjoaaGreat.PvGK
open Go Go.Pv Go.Pv.GS Go.IntKind
open Classical
def Cov (a b:List Z2):Prop:=∀ i,tot b i≤tot a i
theorem less_l1 (a0:List Z2) (x:Z2) (b o:List Z2) (i:Int):Z09.l1 a0 x b o i ()=some (match b with
  | [] =>.inr ()
  | y::_=>if y.f0<x.f0 then .inl ([],false) else .inr ()):=by
 unfold Z09.l1
 cases b with
 | nil=>rw[if_neg (by simp),sb,if_neg (by simp)]
 | cons y b =>
  rw[if_pos (by simp),show at? (y::b) 0=some y from rfl,sb,sb]
  by_cases h:y.f0<x.f0
  ·rw[if_pos (by simpa using h)];simp[h]
  ·rw[if_neg (by simpa using h)];simp[h]
structure Left (s z:Int) (o:List Z2):Prop where
 ok:∀ b∈o,InS s b.f0∧0≤b.f1∧z≤(b.f0-1)*stp s
 u64:∀ b∈o,U64 b.f1
theorem less_l0 (s z:Int) (a:List Z2) (hl:a.length<1000000):∀ (suf pre b o:List Z2) (i:Int),a=pre++suf→i=(pre.length:Int)→Z30 suf→Z30 b→(∀ y∈suf,BOk s z y∧U64 y.f1)→(∀ y∈b,U64 y.f1)→b.length<1000000→o.length≤pre.length →
  (∃ b' o',Z09.l0 a b o i=some (.inr (b',o++o'))∧(b'=[]↔Cov suf b)∧(b'=[]→∀ i,tot o' i=tot suf i-tot b i)∧Left s z o'∧o'.length≤suf.length) ∨
  (Z09.l0 a b o i=some (.inl ([],false))∧¬ Cov suf b):=by
 intro suf
 induction suf with
 | nil =>
  intro pre b o i h1 hi _ hb _ _ _ _
  rw[List.append_nil] at h1;subst h1
  rw[Z09.l0,if_neg (by simp[hi])]
  refine .inl ⟨b,[],by simp,?_,fun h=>by subst h;simp[tot],⟨by simp,by simp⟩,by simp⟩
  constructor
  ·intro h;subst h;intro i;simp[tot]
  ·intro h
   cases b with
   | nil=>rfl
   | cons y b =>
    have h1:=h y.f0
    rw[hb.tot_head] at h1
    have:=hb.pos y (by simp)
    simp[tot] at h1;omega
 | cons x suf ih =>
  intro pre b o i h1 hi hs hb hxs hbs hbl ho
  have hlen:(a.length:Int)=pre.length+(suf.length+1):=by rw[h1];simp
  have hx:=hxs x (by simp)
  have hxp:=hs.pos x (by simp)
  have e1:a=(pre++[x])++suf:=by simp[h1]
  have e2:i+1=((pre++[x]).length:Int):=by simp;omega
  have hsx:=hs.tail
  have hxlow:∀ i,i≤x.f0→tot suf i=0:=fun i hi=>tot_zero (fun c hc=>by have:=(List.pairwise_cons.1 hs.up).1 c hc;omega)
  rw[Z09.l0,if_pos (by simp;omega),Z10 h1 hi,sb,less_l1,sb]
  have keep:(∀ i,tot b i=if i=x.f0 then 0 else tot b i)→(((chk ((o.length+[(⟨x.f0,x.f1⟩:Z2)].length)*16≤140737488355328))>>=fun _=>Z09.l0 a b (o++[(⟨x.f0,x.f1⟩:Z2)]) (i64.wrap (i+1)))=Z09.l0 a b (o++[x]) (i+1)) ∧
    ((∃ b' o',         Z09.l0 a b (o ++ [x]) (i + 1) = some (.inr (b', o ++ o')) ∧ (b' = [] ↔ Cov (x :: suf) b) ∧ (b' = [] → ∀ i, tot o' i = tot (x :: suf) i - tot b i) ∧ Left s z o' ∧ o'.length ≤ (x :: suf).length) ∨
      (Z09.l0 a b (o++[x]) (i+1)=some (.inl ([],false))∧¬ Cov (x::suf) b)):=by
   intro hb0
   have hcov:Cov (x::suf) b↔Cov suf b:=by
    constructor
    ·intro h i
     have:=h i
     by_cases hi:i=x.f0
     ·have h0:=hb0 i;rw[if_pos hi] at h0
      have:=hxlow i (by omega);omega
     ·rw[tot,if_neg (fun e=>hi e.symm)] at this;omega
    ·intro h i
     have:=h i
     rw[tot];split<;>omega
   refine⟨by rw[chkB (by simp;omega),Zl (by omega) (by omega)],?_⟩
   rcases ih (pre++[x]) b (o++[x]) (i+1) e1 e2 hsx hb (fun y hy=>hxs y (by simp[hy])) hbs hbl (by simp;omega) with ⟨b',o',g1,g2,g3,g4,g5⟩ | ⟨g1,g2⟩
   ·refine .inl ⟨b',x::o',by rw[g1];simp,by rw[hcov];exact g2,fun h i=>by rw[tot,tot,g3 h i];omega,⟨fun y hy => ?_,fun y hy => ?_⟩,by simp;omega⟩
    ·rcases List.mem_cons.1 hy with rfl | hy
     ·exact⟨hx.1.ins,Int.le_of_lt hx.1.pos,hx.1.low⟩
     ·exact g4.ok y hy
    ·rcases List.mem_cons.1 hy with rfl | hy
     ·exact hx.2
     ·exact g4.u64 y hy
   ·exact .inr ⟨g1,by rw[hcov];exact g2⟩
  cases b with
  | nil =>
   obtain⟨k1,k2⟩:=keep (fun i=>by simp[tot])
   simp only[]
   rw[if_neg (by simp),sb,if_neg (by simp),sb]
   simp only[]
   rw[k1];exact k2
  | cons y b =>
   have hyp:=hb.pos y (by simp)
   simp only[]
   by_cases h:y.f0<x.f0
   ·rw[if_pos h]
    refine .inr ⟨rfl,fun hc => ?_⟩
    have:=hc y.f0
    rw[hb.tot_head,hs.tot_low h] at this;omega
   rw[if_neg h]
   simp only[]
   rw[if_pos (by simp),show at? (y::b) 0=some y from rfl,sb,sb]
   by_cases he:y.f0=x.f0
   case neg =>
    obtain⟨k1,k2⟩:=keep (fun i=>by
     by_cases hi:i=x.f0
     ·rw[if_pos hi,hb.tot_low (by omega)]
     ·rw[if_neg hi])
    rw[if_neg (by simpa using he),sb]
    simp only[]
    rw[k1];exact k2
   rw[if_pos (by simpa using he),sb]
   by_cases hgt:y.f1>x.f1
   ·rw[if_pos (by simpa using hgt),sb]
    refine .inr ⟨rfl,fun hc => ?_⟩
    have h2:=hc y.f0
    rw[hb.tot_head] at h2
    rw[he,hs.tot_head] at h2;omega
   rw[if_neg (by simpa using hgt),chkB (by simp;omega),sb]
   simp only[]
   have hdrop:(List.drop (Int.toNat (1:Int)) (y::b)).take (Int.toNat (((y::b).length:Int))-Int.toNat (1:Int))=b:=by
    simp
   rw[hdrop,Z7z (by omega) (by have:=hx.2;omega),chkB (by simp;omega),Zl (by omega) (by omega)]
   have hblow:∀ i,i≤y.f0→tot b i=0:=fun i hi=>tot_zero (fun c hc=>by have:=(List.pairwise_cons.1 hb.up).1 c hc;omega)
   have hcov:Cov (x::suf) (y::b)↔Cov suf b:=by
    constructor
    ·intro h i
     have:=h i
     simp only[tot] at this
     by_cases hi:i=x.f0
     ·rw[hblow i (by omega),hxlow i (by omega)];omega
     ·rw[if_neg (by omega),if_neg (fun e=>hi e.symm)] at this;omega
    ·intro h i
     have:=h i
     simp only[tot]
     by_cases hi:i=x.f0
     ·rw[if_pos (by omega),if_pos hi.symm,hblow i (by omega),hxlow i (by omega)];omega
     ·rw[if_neg (by omega),if_neg (fun e=>hi e.symm)];omega
   rcases ih (pre++[x]) b (o++[⟨x.f0,x.f1-y.f1⟩]) (i+1) e1 e2 hsx hb.tail (fun y hy=>hxs y (by simp[hy])) (fun c hc=>hbs c (by simp[hc])) (by simp at hbl;omega) (by simp;omega) with ⟨b',o',g1,g2,g3,g4,g5⟩ | ⟨g1,g2⟩
   ·refine .inl ⟨b',⟨x.f0,x.f1-y.f1⟩::o',by rw[g1];simp,by rw[hcov];exact g2,fun h i => ?_,⟨fun c hc => ?_,fun c hc => ?_⟩,by simp;omega⟩
    ·simp only[tot]
     rw[g3 h i]
     by_cases hi:x.f0=i
     ·rw[if_pos hi,if_pos hi,if_pos (by omega)];omega
     ·rw[if_neg hi,if_neg hi,if_neg (by omega)];omega
    ·rcases List.mem_cons.1 hc with rfl | hc
     ·exact⟨hx.1.ins,by simp;omega,hx.1.low⟩
     ·exact g4.ok c hc
    ·rcases List.mem_cons.1 hc with rfl | hc
     ·have:=hx.2;constructor<;>simp<;>omega
     ·exact g4.u64 c hc
   ·exact .inr ⟨g1,by rw[hcov];exact g2⟩
theorem less_eq (s z:Int) (a b:List Z2) (ha:Z30 a) (hb:Z30 b) (hxs:∀ y∈a,BOk s z y∧U64 y.f1) (hbs:∀ y∈b,U64 y.f1) (hl:a.length<1000000) (hbl:b.length<1000000) :
  ∃ o ok,Z09.f a b=some (o,ok)∧(ok=true↔Cov a b)∧(ok=true→∀ i,tot o i=tot a i-tot b i)∧(ok=true→Left s z o)∧o.length≤a.length:=by
 unfold Z09.f
 rcases less_l0 s z a hl a [] b [] 0 rfl rfl ha hb hxs hbs hbl (Nat.le_refl _) with ⟨b',o',g1,g2,g3,g4,g5⟩ | ⟨g1,g2⟩
 ·rw[g1,sb]
  have hok:((b'.length:Int)==(0:Int))=true↔b'=[]:=by simp
  exact⟨o',_,by simp,by rw[hok,g2],fun h=>g3 (hok.1 h),fun _=>g4,g5⟩
 ·rw[g1,sb]
  exact⟨[],false,rfl,by simp[g2],by simp,by simp,by simp⟩
theorem rat_l0 (l:List Z2) (k:Int) (hl:l.length<1000000):∀ (suf pre:List Z2) (i:Int),l=pre++suf→i=(pre.length:Int)→Z30 suf→∃ r,Z31.l0 l k i=some r∧(match r with | .inl v=>v=tot suf k | .inr _=>tot suf k=0):=by
 intro suf
 induction suf with
 | nil=>intro pre i h1 hi _;rw[List.append_nil] at h1;subst h1;rw[Z31.l0,if_neg (by simp[hi])];exact⟨_,rfl,rfl⟩
 | cons x suf ih =>
  intro pre i h1 hi hc
  have hlen:(l.length:Int)=pre.length+(suf.length+1):=by rw[h1];simp
  rw[Z31.l0,if_pos (by simp;omega),Z10 h1 hi,sb]
  by_cases h:x.f0=k
  ·subst h
   rw[if_pos (by simp)]
   exact⟨_,rfl,hc.tot_head.symm⟩
  ·rw[if_neg (by simpa using h),Zl     (by omega) (by omega)]
   obtain⟨r,e,hr⟩:=ih (pre++[x]) (i+1) (by simp[h1]) (by simp;omega) hc.tail
   refine⟨r,e,?_⟩
   cases r with
   | inl v=>simp only[tot] at hr ⊢;rw[if_neg h];omega
   | inr u=>simp only[tot] at hr ⊢;rw[if_neg h];omega
theorem rat_eq (l:List Z2) (k:Int) (hl:l.length<1000000) (hc:Z30 l):Z31.f l k=some (tot l k):=by
 unfold Z31.f
 obtain⟨r,e,hr⟩:=rat_l0 l k hl l [] 0 rfl rfl hc
 rw[e,sb]
 cases r with
 | inl v=>simp only[] at hr ⊢;rw[hr]
 | inr u=>simp only[] at hr ⊢;rw[hr]
theorem off_l0 (a b:List Z2) (ha:Z30 a) (hl:a.length<1000000) (hbl:b.length<1000000):∀ (suf pre:List Z2) (i:Int),b=pre++suf→i=(pre.length:Int) →
  Z14.l0 a b i=some (if ∀ y∈suf,y.f1≤tot a y.f0 then .inr () else .inl ([],false)):=by
 intro suf
 induction suf with
 | nil=>intro pre i h1 hi;rw[List.append_nil] at h1;subst h1;rw[Z14.l0,if_neg (by simp[hi]),if_pos (by simp)]
 | cons x suf ih =>
  intro pre i h1 hi
  have hlen:(b.length:Int)=pre.length+(suf.length+1):=by rw[h1];simp
  rw[Z14.l0,if_pos (by simp;omega),Z10 h1 hi,sb,rat_eq a _ hl ha,sb]
  by_cases h:tot a x.f0<x.f1
  ·rw[if_pos (by simpa using h),if_neg (fun q=>by have:=q x (by simp);omega)]
  ·rw[if_neg (by simpa using h),Zl     (by omega) (by omega),ih (pre++[x]) (i+1) (by simp[h1]) (by simp;omega)]
   by_cases h2:∀ y∈suf,y.f1≤tot a y.f0
   ·rw[if_pos h2,if_pos (fun y hy=>by
     rcases List.mem_cons.1 hy with rfl | hy
     ·omega
     ·exact h2 y hy)]
   ·rw[if_neg h2,if_neg (fun q=>h2 (fun y hy=>q y (by simp[hy])))]
theorem cov_iff {a b:List Z2} (ha:Z30 a) (hb:Z30 b):Cov a b↔∀ y∈b,y.f1≤tot a y.f0:=by
 constructor
 ·intro h y hy;have:=h y.f0;rw[hb.tot_of hy] at this;exact this
 ·intro h i
  by_cases hc:∃ y∈b,y.f0=i
  ·obtain⟨y,hy,rfl⟩:=hc;rw[hb.tot_of hy];exact h y hy
  ·rw[tot_zero (fun y hy e=>hc ⟨y,hy,e⟩)];exact Z4e ha.nn i
theorem off_l1 (a b:List Z2) (hb:Z30 b) (hl:a.length<1000000) (hbl:b.length<1000000) (hc:Cov a b) (hau:∀ y∈a,U64 y.f1) (ha:Z30 a):∀ (suf pre o:List Z2) (i:Int),a=pre++suf→i=(pre.length:Int)→Z30 o→(∀ x∈o,∃ y∈pre,y.f0=x.f0)→(∀ y∈pre,tot o y.f0=tot a y.f0-tot b y.f0)→o.length≤pre.length →
  ∃ o',Z14.l1 a b o i=some o'∧Z30 o'∧(∀ x∈o',∃ y∈a,y.f0=x.f0)∧(∀ y∈a,tot o' y.f0=tot a y.f0-tot b y.f0):=by
 intro suf
 induction suf with
 | nil =>
  intro pre o i h1 hi ho hos hot _
  rw[List.append_nil] at h1;subst h1
  rw[Z14.l1,if_neg (by simp[hi])]
  exact⟨o,rfl,ho,hos,hot⟩
 | cons x suf ih =>
  intro pre o i h1 hi ho hos hot hol
  have hlen:(a.length:Int)=pre.length+(suf.length+1):=by rw[h1];simp
  have e1:a=(pre++[x])++suf:=by simp[h1]
  have e2:i+1=((pre++[x]).length:Int):=by simp;omega
  have hxa:x∈a:=by rw[h1];simp
  have htx:tot a x.f0=x.f1:=ha.tot_of hxa
  have hxu:=hau x hxa
  have hcx:=hc x.f0
  have hbn:=Z4e hb.nn x.f0
  have hpre:∀ y∈pre,y.f0<x.f0:=fun y hy=>by
   have:=ha.up;rw[h1] at this
   exact(List.pairwise_append.1 this).2.2 y hy x (by simp)
  have hox:∀ c∈o,c.f0<x.f0:=fun c hc=>by obtain⟨y,hy,e⟩:=hos c hc;have:=hpre y hy;omega
  have ho0:tot o x.f0=0:=tot_zero (fun c hc=>by have:=hox c hc;omega)
  rw[Z14.l1,if_pos (by simp;omega),Z10 h1 hi,sb,rat_eq b _ hbl hb,sb,Z7z (by omega) (by omega),Zl (by omega) (by omega)]
  by_cases hpos:x.f1-tot b x.f0>0
  ·rw[if_pos (by simpa using hpos),chkB (by simp;omega),sb]
   refine ih (pre++[x]) _ (i+1) e1 e2 ⟨List.pairwise_append.2 ⟨ho.up,List.pairwise_singleton _ _,fun c hc y hy=>by simp at hy;subst hy;exact hox c hc⟩,fun c hc => ?_⟩ (fun c hc => ?_) (fun y hy => ?_) (by simp;omega)
   ·rcases List.mem_append.1 hc with hc | hc
    ·exact ho.pos c hc
    ·simp at hc;subst hc;simpa using hpos
   ·rcases List.mem_append.1 hc with hc | hc
    ·obtain⟨y,hy,e⟩:=hos c hc;exact⟨y,by simp[hy],e⟩
    ·simp at hc;subst hc;exact⟨x,by simp,rfl⟩
   ·rw[Z2c       ,Z70    ]
    rcases List.mem_append.1 hy with hy | hy
    ·have:=hpre y hy;rw[if_neg (by simp only;omega),hot y hy];omega
    ·simp at hy;subst hy;rw[if_pos rfl,ho0];simp only;omega
  ·rw[if_neg (by simpa using hpos),sb]
   refine ih (pre++[x]) o (i+1) e1 e2 ho (fun c hc=>by obtain⟨y,hy,e⟩:=hos c hc;exact⟨y,by simp[hy],e⟩) (fun y hy => ?_) (by simp;omega)
   rcases List.mem_append.1 hy with hy | hy
   ·exact hot y hy
   ·simp at hy;subst hy;rw[ho0];omega
theorem off_eq (a b:List Z2) (ha:Z30 a) (hb:Z30 b) (hau:∀ y∈a,U64 y.f1) (hl:a.length<1000000) (hbl:b.length<1000000) :
  ∃ o ok,Z14.f a b=some (o,ok)∧(ok=true↔Cov a b)∧(ok=true→Z30 o∧∀ i,tot o i=tot a i-tot b i):=by
 unfold Z14.f
 rw[off_l0 a b ha hl hbl b [] 0 rfl rfl,sb]
 by_cases h:∀ y∈b,y.f1≤tot a y.f0
 ·rw[if_pos h]
  have hc:=(cov_iff ha hb).2 h
  obtain⟨o,e,h1,h2,h3⟩:=off_l1 a b hb hl hbl hc hau ha a [] [] 0 rfl rfl ⟨List.Pairwise.nil,by simp⟩ (by simp) (by simp) (by simp)
  simp only[]
  rw[e,sb]
  refine⟨o,true,rfl,by simp[hc],fun _=>⟨h1,fun i => ?_⟩⟩
  by_cases hi:∃ y∈a,y.f0=i
  ·obtain⟨y,hy,rfl⟩:=hi;exact h3 y hy
  ·have ha0:=tot_zero (l:=a) (i:=i) (fun y hy e=>hi ⟨y,hy,e⟩)
   have hb0:=hc i
   have:=Z4e hb.nn i
   rw[tot_zero (fun x hx e=>by obtain⟨y,hy,e2⟩:=h2 x hx;exact hi ⟨y,hy,e2.trans e⟩)];omega
 ·rw[if_neg h]
  exact⟨[],false,rfl,by simp;rw[cov_iff ha hb];exact h,by simp⟩
structure Lessd (p q r:Ze):Prop where
 valid:Z1q r
 fits:Fits r
 kind:r.f0=p.f0
 schema:r.f1=p.f1
 zeroAt:r.f2=p.f2
 zero:r.f3=p.f3-q.f3
 count:r.f4=p.f4-q.f4
 sum:r.f5=p.f5-q.f5
 tpos:∀ i,tot r.f6 i=tot p.f6 i-tot q.f6 i
 tneg:∀ i,tot r.f7 i=tot p.f7 i-tot q.f7 i
def Covs (p q:Ze):Prop:=Cov p.f6 q.f6∧Cov p.f7 q.f7∧q.f3≤p.f3
theorem neg_sum {a b:Int} (ha:I64 a) (hb:I64 b):((((if(b==(-9223372036854775808))=true then(some (i64.wrap (b+(1:Int)))) else(some b)):Option (Int))>>=fun x2707=>((if(b==(-9223372036854775808))=true then((chk (([a,i64.wrap (0-x2707)].length+[(1:Int)].length)*8≤140737488355328))>>=fun _=>some ([a,i64.wrap (0-x2707)]++[1])) else(some [a,i64.wrap (0-x2707)])):Option (List Int))>>=fun x2711=>Z1h.f x2711):Option (Int×Int))=some (if I64 (a-b) then(a-b,0) else(0,5)):=by
 by_cases h:b = -9223372036854775808
 ·rw[if_pos (by simpa using h),sb,if_pos (by simpa using h),chkB (by simp),sb,raddint _ (by simp) (by
   rw[Zl (n:=b+1) (by omega) (by omega),Zl (n:=0-(b+1)) (by omega) (by omega)]
   intro x hx
   simp at hx
   rcases hx with rfl | rfl | rfl
   ·exact ha
   ·constructor<;>omega
   ·constructor<;>omega)]
  rw[Zl (n:=b+1) (by omega) (by omega),Zl (n:=0-(b+1)) (by omega) (by omega)]
  have e:([a,0-(b+1)]++[1]:List Int).sum=a-b:=by simp;omega
  rw[e]
 ·have hb1:=hb.1
  have hb2:=hb.2
  rw[if_neg (by simpa using h),sb,if_neg (by simpa using h),sb,Zl (by omega) (by omega),raddint _ (by simp) (by
   intro x hx
   simp at hx
   rcases hx with rfl | rfl
   ·exact ha
   ·constructor<;>omega)]
  have e:([a,0-b]:List Int).sum=a-b:=by simp;omega
  rw[e]
theorem Sub_cases (a b p q:Ze) (s z:Int) (fa:Fits a) (fb:Fits b) (he:Z07.f a b=some (p,q,0)) (hr:Z1g.f a b=some (p,q)) (cp:Cut a s z p) (cq:Cut b s z q) (hp:Pair p q) :
  (¬ Covs p q∧Z1d.f a b=some (h0,21)∧Z32.f a b=some (h0,21)) ∨
  (Covs p q∧¬ I64 (a.f5-b.f5)∧Z1d.f a b=some (h0,5)∧Z32.f a b=some (h0,5)) ∨
  (Covs p q∧∃ r,Z1d.f a b=some (r,0)∧Z32.f a b=some (r,0)∧Lessd p q r):=by
 have a1:=hp.vp.pos.len
 have a2:=hp.vp.neg.len
 have a3:=hp.vq.pos.len
 have a4:=hp.vq.neg.len
 have c1:=hp.vp.count
 have c2:=hp.vq.count
 have hU:=hp.fp.count
 have z1:=hp.fp.zero
 have z2:=hp.fq.zero
 have hSI:=subint fa.sum fb.sum
 have hNS:=neg_sum fa.sum fb.sum
 obtain⟨o6,k6,e6,i6,t6,L6,m6⟩:=less_eq p.f1 p.f2 p.f6 q.f6 hp.vp.pos.canon hp.vq.pos.canon (fun y hy=>⟨hp.vp.pos.ok y hy,(hp.fp.pos y hy).2⟩) (fun y hy=>(hp.fq.pos y hy).2) (by omega) (by omega)
 obtain⟨o7,k7,e7,i7,t7,L7,m7⟩:=less_eq p.f1 p.f2 p.f7 q.f7 hp.vp.neg.canon hp.vq.neg.canon (fun y hy=>⟨hp.vp.neg.ok y hy,(hp.fp.neg y hy).2⟩) (fun y hy=>(hp.fq.neg y hy).2) (by omega) (by omega)
 obtain⟨w6,j6,d6,u6,v6⟩:=off_eq p.f6 q.f6 hp.vp.pos.canon hp.vq.pos.canon (fun y hy=>(hp.fp.pos y hy).2) (by omega) (by omega)
 obtain⟨w7,j7,d7,u7,v7⟩:=off_eq p.f7 q.f7 hp.vp.neg.canon hp.vq.neg.canon (fun y hy=>(hp.fp.neg y hy).2) (by omega) (by omega)
 have hj6:j6=k6:=by rw[Bool.eq_iff_iff,u6,i6]
 have hj7:j7=k7:=by rw[Bool.eq_iff_iff,u7,i7]
 subst hj6;subst hj7
 have hzs:=num_sub z1 z2
 have hcond:((if(!j6)=true then(some true) else(if(!j7)=true then(some true) else(some (((if q.f3≤p.f3 then((p.f3-q.f3,0):Int×Int) else(0,5)).2 != (0:Int)))))):Option (Bool))=some (!decide (Covs p q)):=by
  unfold Covs
  cases h6:j6 with
  | false => have : ¬ Cov p.f6 q.f6 := by rw [← i6, h6]; simp
             simp[this]
  | true =>
   have h6c:Cov p.f6 q.f6:=i6.1 h6
   cases h7:j7 with
   | false => have : ¬ Cov p.f7 q.f7 := by rw [← i7, h7]; simp
              simp[this]
   | true =>
    have h7c:Cov p.f7 q.f7:=i7.1 h7
    by_cases h3:q.f3≤p.f3<;>simp[h6c,h7c,h3]
 have rcond:((if(!j6)=true then(some true) else(if(!j7)=true then(some true) else(some (decide (p.f3<q.f3))))):Option (Bool))=some (!decide (Covs p q)):=by
  unfold Covs
  cases h6:j6 with
  | false => have : ¬ Cov p.f6 q.f6 := by rw [← i6, h6]; simp
             simp[this]
  | true =>
   have h6c:Cov p.f6 q.f6:=i6.1 h6
   cases h7:j7 with
   | false => have : ¬ Cov p.f7 q.f7 := by rw [← i7, h7]; simp
              simp[this]
   | true =>
    have h7c:Cov p.f7 q.f7:=i7.1 h7
    by_cases h3:q.f3≤p.f3<;>simp[h6c,h7c,h3];omega
 have hpre:Z32.f a b=(fun(t2714:Int×Int)=>(Z1g.f a b)>>=fun t2718=>(Z14.f ((t2718.1).f6) ((t2718.2).f6))>>=fun t2805=>(Z14.f ((t2718.1).f7) ((t2718.2).f7))>>=fun t2809=>((if(!t2805.2)=true then(some true) else(if(!t2809.2)=true then(some true) else(some (decide (((t2718.1).f3)<((t2718.2).f3)))))):Option (Bool))>>=fun x2815=>if x2815=true then(some ((⟨0,0,0,0,0,0,[],[]⟩:Ze),(21:Int))) else(if(t2714.2 != (0:Int))=true then(some ((⟨0,0,0,0,0,0,[],[]⟩:Ze),5)) else(some ((⟨(t2718.1).f0,(t2718.1).f1,(t2718.1).f2,u64.wrap (((t2718.1).f3)-((t2718.2).f3)),u64.wrap (((t2718.1).f4)-((t2718.2).f4)),t2714.1,t2805.1,t2809.1⟩:Ze),0)))) (if I64 (a.f5-b.f5) then(a.f5-b.f5,0) else(0,5)):=by
  unfold Z32.f
  by_cases h:b.f5 = -9223372036854775808
  ·rw[if_pos (by simpa using h),sb,if_pos (by simpa using h),chkB (by simp),sb] at hNS
   rw[if_pos (by simpa using h),sb,if_pos (by simpa using h),chkB (by simp),sb,hNS,sb]
  ·rw[if_neg (by simpa using h),sb,if_neg (by simpa using h),sb] at hNS
   rw[if_neg (by simpa using h),sb,if_neg (by simpa using h),sb,hNS,sb]
 by_cases hcv:Covs p q
 case neg =>
  refine .inl ⟨hcv,?_,?_⟩
  ·unfold        Z1d.f
   rw[hSI,sb,he,sb,if_neg (by simp)]
   dsimp only
   rw[e6,e7,hzs,sb,sb,sb,hcond,sb,if_pos (by simp[hcv])];rfl
  ·rw[hpre];simp only[];rw[hr,sb]
   dsimp only
   rw[d6,d7,sb,sb,rcond,sb,if_pos (by simp[hcv])];rfl
 by_cases hI:I64 (a.f5-b.f5)
 case neg =>
  refine .inr (.inl ⟨hcv,hI,?_,?_⟩)
  ·unfold        Z1d.f
   rw[hSI,sb,he,sb,if_neg (by simp)]
   dsimp only
   rw[e6,e7,hzs,sb,sb,sb,hcond,sb,if_neg (by simp[hcv]),if_neg hI,if_pos (by simp)];rfl
  ·rw[hpre];simp only[];rw[hr,sb]
   dsimp only
   rw[d6,d7,sb,sb,rcond,sb,if_neg (by simp[hcv]),if_neg hI,if_pos (by simp)];rfl
 obtain⟨h6,h7,h3⟩:=hcv
 have T6:=t6 (i6.2 h6)
 have T7:=t7 (i7.2 h7)
 have M6:=L6 (i6.2 h6)
 have M7:=L7 (i7.2 h7)
 have q6:cnt o6=cnt p.f6-cnt q.f6:=by
  have h:=Z3o (l:=o6) (l':=p.f6++negl q.f6) (fun i=>by rw[T6,Z2c,Z6g];omega)
  rw[h,Z5y,Z43 (negl q.f6),Z5f,← Z43];omega
 have q7:cnt o7=cnt p.f7-cnt q.f7:=by
  have h:=Z3o (l:=o7) (l':=p.f7++negl q.f7) (fun i=>by rw[T7,Z2c,Z6g];omega)
  rw[h,Z5y,Z43 (negl q.f7),Z5f,← Z43];omega
 have n6:=Z0i (l:=o6) (fun b hb=>(M6.ok b hb).2.1)
 have n7:=Z0i (l:=o7) (fun b hb=>(M7.ok b hb).2.1)
 have hn1:=Z0i hp.vq.pos.canon.nn
 have hn2:=Z0i hp.vq.neg.canon.nn
 obtain⟨r,e,v,f,e0,e1,e2,e3,e5,x6,x7,e4⟩:=Z79 (⟨p.f0,p.f1,p.f2,p.f3-q.f3,p.f4,a.f5-b.f5,p.f6,p.f7⟩:Ze) o6 o7 hp.vp.kind hp.vp.schema hp.vp.zero (by simp only;omega) hI ⟨by omega,M6.ok⟩ ⟨by omega,M7.ok⟩ (by simp only;omega) (fun o ho hto=>by
  rcases hto with hto | hto
  ·exact Nat.le_trans hto.2 (by omega)
  ·exact Nat.le_trans hto.2 (by omega))
 refine .inr (.inr ⟨⟨h6,h7,h3⟩,r,?_,?_,⟨v,f,e0,e1,e2,e3,by rw[e4,q6,q7];simp only;omega,by rw[e5,cp.sum,cq.sum],fun i=>by rw[x6,T6],fun i=>by rw[x7,T7]⟩⟩)
 ·unfold        Z1d.f
  rw[hSI,sb,he,sb,if_neg (by simp)]
  dsimp only
  rw[e6,e7,hzs,sb,sb,sb,hcond,sb,if_neg (by simp[Covs,h6,h7,h3]),if_pos hI,if_neg (by simp),if_pos h3]
  dsimp only
  rw[e];rfl
 ·obtain⟨W6,V6⟩:=v6 (u6.2 h6)
  obtain⟨W7,V7⟩:=v7 (u7.2 h7)
  rw[hpre];simp only[];rw[hr,sb]
  dsimp only
  rw[d6,d7,sb,sb,rcond,sb,if_neg (by simp[Covs,h6,h7,h3]),if_pos hI,if_neg (by simp),Z7z (n:=p.f3-q.f3) (by omega) (by omega),Z7z (n:=p.f4-q.f4) (by omega) (by omega)]
  have:(⟨p.f0,p.f1,p.f2,p.f3-q.f3,p.f4-q.f4,a.f5-b.f5,w6,w7⟩:Ze)=r :=
   hist_ext e0.symm e1.symm e2.symm e3.symm (by rw[e4,q6,q7];simp only;omega) e5.symm (Z48 W6 v.pos.canon (fun i=>by rw[V6,x6,T6])) (Z48 W7 v.neg.canon (fun i=>by rw[V7,x7,T7]))
  rw[← this]
end Go.Proofs.YtlclecehlekjoaaGreat.PvGK
set_option linter.unusedVariables false
set_option linter.unusedSimpArgs false
namespace Go.Proofs.YtlclecehlekjoaaGreat.PvGK
open Go Go.Pv Go.Pv.GS Go.IntKind
open Classical
theorem sub_any (x y:Ze) (vx:Z1q x) (fx:Fits x) (vy:Z1q y) (fy:Fits y):∃ r e,Z1d.f x y=some (r,e)∧Z32.f x y=some (r,e)∧((e=0∧Z1q r∧Fits r)∨(r=h0∧(e=21∨e=5))):=by
 obtain⟨p,q,s,z,e,r,cp,cq,hp⟩:=Alike_pair x y vx fx vy fy
 rcases Sub_cases x y p q s z fx fy e r cp cq hp with ⟨_,h1,h2⟩ | ⟨_,_,h1,h2⟩ | ⟨_,r,h1,h2,h3⟩
 ·exact⟨_,_,h1,h2,.inr ⟨rfl,.inl rfl⟩⟩
 ·exact⟨_,_,h1,h2,.inr ⟨rfl,.inr rfl⟩⟩
 ·exact⟨_,_,h1,h2,.inl ⟨rfl,h3.valid,h3.fits⟩⟩
end Go.Proofs.YtlclecehlekjoaaGreat.PvGK
set_option linter.unusedVariables false
set_option linter.unusedSimpArgs false
namespace Go.Proofs.YtlclecehlekjoaaGreat.PvGK
open Go Go.Pv Go.Pv.GS Go.IntKind
open Classical
theorem Alike_pairP (a b:Ze) (ha:Z1q a) (fa:Fits a) (hb:Z1q b) (fb:Fits b) :
  ∃ p q s z,Z07.f a b=some (p,q,0)∧Cut a s z p∧Cut b s z q∧Pair p q:=by
 obtain⟨p0,q0,p,q,s,z,_,_,_,_,_,e,cp,cq,_⟩:=Alike_eq a b ha fa hb fb
 exact⟨p,q,s,z,e,cp,cq,cp.valid,cq.valid,cp.fits,cq.fits,cp.schema.trans cq.schema.symm,cp.zeroAt.trans cq.zeroAt.symm⟩
theorem Sub_casesP (a b p q:Ze) (s z:Int) (fa:Fits a) (fb:Fits b) (he:Z07.f a b=some (p,q,0)) (cp:Cut a s z p) (cq:Cut b s z q) (hp:Pair p q) :
  Z1d.f a b=some (h0,21)∨Z1d.f a b=some (h0,5)∨(∃ r,Z1d.f a b=some (r,0)∧Lessd p q r):=by
 have a1:=hp.vp.pos.len
 have a2:=hp.vp.neg.len
 have a3:=hp.vq.pos.len
 have a4:=hp.vq.neg.len
 have c1:=hp.vp.count
 have c2:=hp.vq.count
 have hU:=hp.fp.count
 have z1:=hp.fp.zero
 have z2:=hp.fq.zero
 have hSI:=subint fa.sum fb.sum
 obtain⟨o6,k6,e6,i6,t6,L6,m6⟩:=less_eq p.f1 p.f2 p.f6 q.f6 hp.vp.pos.canon hp.vq.pos.canon (fun y hy=>⟨hp.vp.pos.ok y hy,(hp.fp.pos y hy).2⟩) (fun y hy=>(hp.fq.pos y hy).2) (by omega) (by omega)
 obtain⟨o7,k7,e7,i7,t7,L7,m7⟩:=less_eq p.f1 p.f2 p.f7 q.f7 hp.vp.neg.canon hp.vq.neg.canon (fun y hy=>⟨hp.vp.neg.ok y hy,(hp.fp.neg y hy).2⟩) (fun y hy=>(hp.fq.neg y hy).2) (by omega) (by omega)
 have hzs:=num_sub z1 z2
 have hcond:((if(!k6)=true then(some true) else(if(!k7)=true then(some true) else(some (((if q.f3≤p.f3 then((p.f3-q.f3,0):Int×Int) else(0,5)).2 != (0:Int)))))):Option (Bool))=some (!decide (Covs p q)):=by
  unfold Covs
  cases h6:k6 with
  | false => have : ¬ Cov p.f6 q.f6 := by rw [← i6, h6]; simp
             simp[this]
  | true =>
   have h6c:Cov p.f6 q.f6:=i6.1 h6
   cases h7:k7 with
   | false => have : ¬ Cov p.f7 q.f7 := by rw [← i7, h7]; simp
              simp[this]
   | true =>
    have h7c:Cov p.f7 q.f7:=i7.1 h7
    by_cases h3:q.f3≤p.f3<;>simp[h6c,h7c,h3]
 by_cases hcv:Covs p q
 case neg =>
  refine .inl ?_
  ·unfold        Z1d.f
   rw[hSI,sb,he,sb,if_neg (by simp)]
   dsimp only
   rw[e6,e7,hzs,sb,sb,sb,hcond,sb,if_pos (by simp[hcv])];rfl
 by_cases hI:I64 (a.f5-b.f5)
 case neg =>
  refine .inr (.inl ?_)
  ·unfold        Z1d.f
   rw[hSI,sb,he,sb,if_neg (by simp)]
   dsimp only
   rw[e6,e7,hzs,sb,sb,sb,hcond,sb,if_neg (by simp[hcv]),if_neg hI,if_pos (by simp)];rfl
 obtain⟨h6,h7,h3⟩:=hcv
 have T6:=t6 (i6.2 h6)
 have T7:=t7 (i7.2 h7)
 have M6:=L6 (i6.2 h6)
 have M7:=L7 (i7.2 h7)
 have q6:cnt o6=cnt p.f6-cnt q.f6:=by
  have h:=Z3o (l:=o6) (l':=p.f6++negl q.f6) (fun i=>by rw[T6,Z2c,Z6g];omega)
  rw[h,Z5y,Z43 (negl q.f6),Z5f,← Z43];omega
 have q7:cnt o7=cnt p.f7-cnt q.f7:=by
  have h:=Z3o (l:=o7) (l':=p.f7++negl q.f7) (fun i=>by rw[T7,Z2c,Z6g];omega)
  rw[h,Z5y,Z43 (negl q.f7),Z5f,← Z43];omega
 have n6:=Z0i (l:=o6) (fun b hb=>(M6.ok b hb).2.1)
 have n7:=Z0i (l:=o7) (fun b hb=>(M7.ok b hb).2.1)
 have hn1:=Z0i hp.vq.pos.canon.nn
 have hn2:=Z0i hp.vq.neg.canon.nn
 obtain⟨r,e,v,f,e0,e1,e2,e3,e5,x6,x7,e4⟩:=Z79 (⟨p.f0,p.f1,p.f2,p.f3-q.f3,p.f4,a.f5-b.f5,p.f6,p.f7⟩:Ze) o6 o7 hp.vp.kind hp.vp.schema hp.vp.zero (by simp only;omega) hI ⟨by omega,M6.ok⟩ ⟨by omega,M7.ok⟩ (by simp only;omega) (fun o ho hto=>by
  rcases hto with hto | hto
  ·exact Nat.le_trans hto.2 (by omega)
  ·exact Nat.le_trans hto.2 (by omega))
 refine .inr (.inr ⟨r,?_,⟨v,f,e0,e1,e2,e3,by rw[e4,q6,q7];simp only;omega,by rw[e5,cp.sum,cq.sum],fun i=>by rw[x6,T6],fun i=>by rw[x7,T7]⟩⟩)
 ·unfold        Z1d.f
  rw[hSI,sb,he,sb,if_neg (by simp)]
  dsimp only
  rw[e6,e7,hzs,sb,sb,sb,hcond,sb,if_neg (by simp[Covs,h6,h7,h3]),if_pos hI,if_neg (by simp),if_pos h3]
  dsimp only
  rw[e];rfl
theorem sub_anyP (x y:Ze) (vx:Z1q x) (fx:Fits x) (vy:Z1q y) (fy:Fits y):∃ r e,Z1d.f x y=some (r,e)∧((e=0∧Z1q r∧Fits r)∨(r=h0∧(e=21∨e=5))):=by
 obtain⟨p,q,s,z,e,cp,cq,hp⟩:=Alike_pairP x y vx fx vy fy
 rcases Sub_casesP x y p q s z fx fy e cp cq hp with h1 | h1 | ⟨r,h1,h3⟩
 ·exact⟨_,_,h1,.inr ⟨rfl,.inl rfl⟩⟩
 ·exact⟨_,_,h1,.inr ⟨rfl,.inr rfl⟩⟩
 ·exact⟨_,_,h1,.inl ⟨rfl,h3.valid,h3.fits⟩⟩
noncomputable def gap (x y:Ze):Ze:=match Z1d.f y x with
 | some (d,e)=>if e=21 then y else d
 | none=>y
end Go.Proofs.YtlclecehlekjoaaGreat.PvGK
set_option linter.unusedVariables false
set_option linter.unusedSimpArgs false
set_option maxRecDepth 10000
namespace Go.Proofs.YtlclecehlekjoaaGreat.PvGK
open Go Go.Pv Go.Pv.GS Go.IntKind
def Z68 (k:Int) (h:Ze):List Z2:=if k=0 then h.f6 else h.f7
def allI (k:Int) (l:List Za):List Int:=l.foldl (fun u s=>uni u ((Z68 k s.f1).map (·.f0))) []
theorem Z4n (k:Int) (l:List Za) (s:Za):allI k (l++[s])=uni (allI k l) ((Z68 k s.f1).map (·.f0)):=by simp[allI,List.foldl_append]
theorem Z73 {h:Ze} (v:Z1q h) (k:Int):Side h.f1 h.f2 (Z68 k h):=by unfold Z68;split;exact v.pos;exact v.neg
theorem side_ids {h:Ze} (v:Z1q h) (k:Int):Ids ((Z68 k h).map (·.f0)):=by
 have s:=Z73 v k
 refine⟨List.pairwise_map.2 s.up,fun i hi => ?_⟩
 obtain⟨y,hy,rfl⟩:=List.mem_map.1 hi
 have:=Z2s (s.ok y hy).ins;omega
theorem Z7v {α:Type} {P:List α→Prop} (h0:P []) (h1:∀ l x,P l→P (l++[x])):∀ l,P l:=by
 intro l
 rcases List.eq_nil_or_concat l with rfl | ⟨l',x,rfl⟩
 ·exact h0
 ·rw[List.concat_eq_append];exact h1 l' x (Z7v h0 h1 l')
termination_by l=>l.length
decreasing_by subst l;simp
theorem Z6x (k:Int) (l:List Za):(∀ s∈l,Z1q s.f1)→Ids (allI k l):=by
 induction l using Z7v with
 | h0=>intro _;exact⟨List.Pairwise.nil,by simp[allI]⟩
 | h1 l x ih =>
  intro h
  have i1:=ih (fun s hs=>h s (by simp[hs]))
  have i2:=side_ids (h x (by simp)) k
  rw[Z4n]
  exact⟨uni_inc _ _ i1.1 i2.1,fun i hi=>by rcases(Z77 i _ _).1 hi with q | q;exact i1.2 i q;exact i2.2 i q⟩
theorem Z7y (k:Int) (l:List Za):(∀ s∈l,Z1q s.f1)→(allI k l).length≤512*l.length:=by
 induction l using Z7v with
 | h0=>intro _;simp[allI]
 | h1 l x ih =>
  intro h
  have i1:=ih (fun s hs=>h s (by simp[hs]))
  have i2:=(Z73 (h x (by simp)) k).len
  have:=uni_len (allI k l) ((Z68 k x.f1).map (·.f0))
  rw[Z4n]
  simp only[List.length_map,List.length_append,List.length_singleton] at *;omega
theorem allI_mem (k:Int) (i:Int) (l:List Za):i∈allI k l↔∃ s∈l,i∈(Z68 k s.f1).map (·.f0):=by
 induction l using Z7v with
 | h0=>simp[allI]
 | h1 l x ih =>
  rw[Z4n,Z77,ih]
  constructor
  ·rintro(⟨s,hs,h⟩ | h)
   ·exact⟨s,by simp[hs],h⟩
   ·exact⟨x,by simp,h⟩
  ·rintro⟨s,hs,h⟩
   rcases List.mem_append.1 hs with hs | hs
   ·exact .inl ⟨s,hs,h⟩
   ·simp at hs;subst hs;exact .inr h
theorem lays_l0 (l:List Za) (hl:l.length≤1000) (hv:∀ s∈l,Z1q s.f1):∀ (suf pre:List Za) (i:Int),l=pre++suf→i=(pre.length:Int) →
  Z0d.l0 l (lay (allI 0 pre)).f0 (lay (allI 0 pre)).f1 (lay (allI 1 pre)).f0 (lay (allI 1 pre)).f1 i=some ((lay (allI 0 l)).f0,(lay (allI 0 l)).f1,(lay (allI 1 l)).f0,(lay (allI 1 l)).f1):=by
 intro suf
 induction suf with
 | nil=>intro pre i h1 hi;rw[List.append_nil] at h1;subst h1;rw[Z0d.l0,if_neg (by simp[hi])]
 | cons s suf ih =>
  intro pre i h1 hi
  have hlen:l.length=pre.length+(suf.length+1):=by rw[h1];simp
  have vs:=hv s (by rw[h1];simp)
  have hp:∀ x∈pre,Z1q x.f1:=fun x hx=>hv x (by rw[h1];simp[hx])
  have a0:=Z6x 0 pre hp
  have a1:=Z6x 1 pre hp
  have n0:=Z7y 0 pre hp
  have n1:=Z7y 1 pre hp
  have s0:=side_ids vs 0
  have s1:=side_ids vs 1
  have m0:=vs.pos.len
  have m1:=vs.neg.len
  have O0:=of_eq s.f1.f6 (by omega) s0.sm
  have O1:=of_eq s.f1.f7 (by omega) s1.sm
  have J0:Z18.f ⟨(lay (allI 0 pre)).f0,(lay (allI 0 pre)).f1⟩ (lay (s.f1.f6.map (·.f0)))=some (lay (allI 0 (pre++[s]))):=by
   rw[Z4n];exact join_eq a0.sm s0.sm (by simp[Z68];omega)
  have J1:Z18.f ⟨(lay (allI 1 pre)).f0,(lay (allI 1 pre)).f1⟩ (lay (s.f1.f7.map (·.f0)))=some (lay (allI 1 (pre++[s]))):=by
   rw[Z4n];exact join_eq a1.sm s1.sm (by simp[Z68];omega)
  rw[Z0d.l0,if_pos (by simp;omega),Z10 h1 hi,sb,O0,sb,J0,sb,O1,sb,J1,sb,Zl (by omega) (by omega)]
  exact ih (pre++[s]) (i+1) (by simp[h1]) (by simp;omega)
theorem lays_eq (l:List Za) (hl:l.length≤1000) (hv:∀ s∈l,Z1q s.f1):Z0d.f l=some (lay (allI 0 l),lay (allI 1 l)):=by
 unfold Z0d.f
 rw[show Z0d.l0 l 0 [] 0 [] 0=_ from lays_l0 l hl hv l [] 0 rfl rfl,sb]
theorem rall_l1 (l:List Za) (k q:Int) (t:List Z2) (hl:t.length<1000000):∀ (suf pre o:List Z2) (i:Int),t=pre++suf→i=(pre.length:Int)→o.length+suf.length<100000000 →
  Z0n.l1 l k t q o i=some (o++suf.map fun y=>⟨y.f0,1⟩):=by
 intro suf
 induction suf with
 | nil=>intro pre o i h1 hi ho;rw[Z0n.l1,if_neg (by rw[h1];simp[hi])];simp
 | cons y suf ih =>
  intro pre o i h1 hi ho
  have hlen:t.length=pre.length+(suf.length+1):=by rw[h1];simp
  simp only[List.length_cons] at ho
  rw[Z0n.l1,if_pos (by simp;omega),Z10 h1 hi,sb,chkB (by simp;omega),Zl (by omega) (by omega),ih (pre++[y]) _ (i+1) (by simp[h1]) (by simp;omega) (by simp;omega)]
  simp
theorem rside_eq (h:Ze) {k:Int} (hk:k=0∨k=1):Z4f.f h k=some (Z68 k h):=by
 rcases hk with rfl | rfl<;>rfl
theorem rall_l0 (l:List Za) (hl:l.length≤1000) (hv:∀ s∈l,Z1q s.f1) {k:Int} (hk:k=0∨k=1):∀ (suf pre:List Za) (o:List Z2) (i:Int),l=pre++suf→i=(pre.length:Int)→o.length≤512*pre.length →
  Z0n.l0 l k o i=some (o++suf.flatMap fun s=>(Z68 k s.f1).map fun y=>⟨y.f0,1⟩):=by
 intro suf
 induction suf with
 | nil=>intro pre o i h1 hi ho;rw[Z0n.l0,if_neg (by rw[h1];simp[hi])];simp
 | cons s suf ih =>
  intro pre o i h1 hi ho
  have hlen:l.length=pre.length+(suf.length+1):=by rw[h1];simp
  have m:=(Z73 (hv s (by rw[h1];simp)) k).len
  rw[Z0n.l0,if_pos (by simp;omega),Z10 h1 hi,sb,rside_eq _ hk,sb,rall_l1 l k i (Z68 k s.f1) (by omega) (Z68 k s.f1) [] o 0 rfl rfl (by omega),sb,Zl (by omega) (by omega),ih (pre++[s]) _ (i+1) (by simp[h1]) (by simp;omega) (by simp;omega)]
  simp
theorem rall_l2 (t:List Z2×Int) (hl:t.1.length<10000000):∀ (suf pre:List Z2) (o:List Int) (i:Int),t.1=pre++suf→i=(pre.length:Int)→o.length≤pre.length →
  Z0n.l2 t o i=some (o++suf.map (·.f0)):=by
 intro suf
 induction suf with
 | nil=>intro pre o i h1 hi ho;rw[Z0n.l2,if_neg (by rw[h1];simp[hi])];simp
 | cons y suf ih =>
  intro pre o i h1 hi ho
  have hlen:t.1.length=pre.length+(suf.length+1):=by rw[h1];simp
  rw[Z0n.l2,if_pos (by simp;omega),Z10 h1 hi,sb,chkB (by simp;omega),Zl (by omega) (by omega),ih (pre++[y]) _ (i+1) (by simp[h1]) (by simp;omega) (by simp;omega)]
  simp
theorem ones_cnt:∀ (A:List Z2),(∀ y∈A,y.f1=1)→cnt A=A.length
 | [],_=>rfl
 | y::A,h=>by rw[Z3c,ones_cnt A (fun z hz=>h z (by simp[hz])),h y (by simp)];simp;omega
theorem fm_len (k:Int):∀ (l:List Za),(∀ s∈l,Z1q s.f1)→(l.flatMap fun s=>(Z68 k s.f1).map fun y=>(⟨y.f0,1⟩:Z2)).length≤512*l.length
 | [],_=>by simp
 | s::l,h=>by
  have:=fm_len k l (fun x hx=>h x (by simp[hx]))
  have:=(Z73 (h s (by simp)) k).len
  rw[List.flatMap_cons,List.length_append,List.length_map,List.length_cons];omega
theorem rall_eq (l:List Za) (hl:l.length≤1000) (hv:∀ s∈l,Z1q s.f1) {k:Int} (hk:k=0∨k=1):Z0n.f l k=some (allI k l):=by
 unfold Z0n.f
 rw[rall_l0 l hl hv hk l [] [] 0 rfl rfl (by simp),sb,List.nil_append]
 have hA:=fm_len k l hv
 generalize eA:(l.flatMap fun s=>(Z68 k s.f1).map fun y=>(⟨y.f0,1⟩:Z2))=A at *
 have h1:∀ y∈A,y.f1=1:=fun y hy=>by
  rw[← eA] at hy
  obtain⟨s,_,h⟩:=List.mem_flatMap.1 hy
  obtain⟨z,_,rfl⟩:=List.mem_map.1 h
  rfl
 have hmem:∀ i,(∃ y∈A,y.f0=i)↔i∈allI k l:=fun i=>by
  rw[allI_mem,← eA]
  constructor
  ·rintro⟨y,hy,rfl⟩
   obtain⟨s,hs,h⟩:=List.mem_flatMap.1 hy
   obtain⟨z,hz,rfl⟩:=List.mem_map.1 h
   exact⟨s,hs,List.mem_map.2 ⟨z,hz,rfl⟩⟩
  ·rintro⟨s,hs,h⟩
   obtain⟨z,hz,rfl⟩:=List.mem_map.1 h
   exact⟨⟨z.f0,1⟩,List.mem_flatMap.2 ⟨s,hs,List.mem_map.2 ⟨z,hz,rfl⟩⟩,rfl⟩
 have hn:Nn A:=fun y hy=>by rw[h1 y hy];omega
 obtain⟨o,e,hc,ht,ho⟩:=tidy_ref A (by omega) (fun y hy=>by rw[h1 y hy];omega) (by rw[ones_cnt A h1];omega)
 rw[e,sb,rall_l2 (o,0) (by show o.length<_;omega) o [] [] 0 rfl rfl (by simp),sb,List.nil_append]
 congr 1
 refine inc_ext (List.pairwise_map.2 hc.up) (Z6x k l hv).1 (fun i => ?_)
 rw[← hmem]
 constructor
 ·intro h
  obtain⟨y,hy,rfl⟩:=List.mem_map.1 h
  have h2:=hc.tot_of hy
  have h3:=hc.pos y hy
  apply Classical.byContradiction
  intro hno
  rw[ht,tot_zero (fun z hz q=>hno ⟨z,hz,q⟩)] at h2
  omega
 ·rintro⟨y,hy,rfl⟩
  have h2:=tot_mem hn hy
  rw[h1 y hy,← ht] at h2
  apply Classical.byContradiction
  intro hno
  rw[tot_zero (fun z hz q=>hno (List.mem_map.2 ⟨z,hz,q⟩))] at h2
  omega
theorem reset_eq {x y:Ze} (vx:Z1q x) (fx:Fits x) (vy:Z1q y) (fy:Fits y):∃ r:Bool,Z2u.f y x=some r∧∃ q e,Z32.f x y=some (q,e)∧r=(e==(21:Int)):=by
 obtain⟨q,e,e1,e2,_⟩:=sub_any x y vx fx vy fy
 unfold Z2u.f
 rw[e1,sb]
 exact⟨_,rfl,q,e,e2,rfl⟩
theorem Z6o (n:Nat):decide ((n:Int)≤512)=decide (n≤512):=by
 by_cases h:n≤512
 ·rw[decide_eq_true h,decide_eq_true (by omega)]
 ·rw[decide_eq_false h,decide_eq_false (by omega)]
structure COk (l:List Za):Prop where
 ok:∀ s∈l,Z1q s.f1∧0≤s.f0∧s.f0≤1099511627776
 len:l.length≤32
 up:l.Pairwise (fun a b=>a.f0<b.f0)
 head:∀ s∈l,∀ t∈l,s.f1.f0=t.f1.f0∧s.f1.f1=t.f1.f1∧s.f1.f2=t.f1.f2
 pos:(allI 0 l).length≤512
 neg:(allI 1 l).length≤512
theorem COk.nil:COk []:=⟨by simp,by simp,by simp,by simp,by simp[allI],by simp[allI]⟩
theorem fit_nil (s:Za) (vs:Z1q s.f1) (ht:0≤s.f0∧s.f0≤1099511627776):COk ([]++[s]):=by
 refine⟨by simp;exact⟨vs,ht⟩,by simp,by simp,by simp,?_,?_⟩
 ·have:=(Z73 vs 0).len;rw[Z4n];simp[allI,uni,this]
 ·have:=(Z73 vs 1).len;rw[Z4n];simp[allI,uni,this]
theorem rfits (P:List Za) (p s:Za) (hl:(P++[p]).length≤900) (hV:∀ x∈(P++[p])++[s],Z1q x.f1) :
  Z2d.f (P++[p]) s=(if(decide (31<(P++[p]).length)||decide (s.f0≤p.f0)||(s.f1.f0 != p.f1.f0)||(s.f1.f1 != p.f1.f1)||(s.f1.f2 != p.f1.f2))=true then some false else
   ((if (s.f1.f0 == (0 : Int)) = true then ((      Z32.f s.f1 p.f1) >>= fun t4653 => if (t4653.2 == (21 : Int)) = true then (some (.inl false)) else (some (.inr ()))) else (some (.inr ()))) : Option (Bool ⊕ Unit)) >>= fun oo => match oo with
     | .inl rr=>some rr
     | .inr _=>some (decide ((allI 0 ((P++[p])++[s])).length≤512)&&decide ((allI 1 ((P++[p])++[s])).length≤512))):=by
 have hla:((P++[p]:List Za).length:Int)=P.length+1:=by simp
 have hat:at? (P++[p]) (i64.wrap (((P++[p]:List Za).length:Int)-1))=some p:=by
  rw[hla,Zl (by simp at hl;omega) (by simp at hl;omega)];exact Z10 (pre:=P) (x:=p) (suf:=[]) rfl (by omega)
 have hne:¬ ((((P++[p]:List Za).length:Int)==0)=true):=by rw[hla];simp;omega
 have hl2:((P++[p])++[s]:List Za).length≤1000:=by simp at hl ⊢;omega
 unfold Z2d.f
 have hb:((if(decide (((P++[p]:List Za).length:Int)>(31:Int)))=true then(some true) else(if(decide (s.f0≤p.f0))=true then(some true) else(if(s.f1.f0 != p.f1.f0)=true then(some true) else(if(s.f1.f1 != p.f1.f1)=true then(some true) else(some (s.f1.f2 != p.f1.f2)))))):Option (Bool))=some (decide (31<(P++[p]).length)||decide (s.f0≤p.f0)||(s.f1.f0 != p.f1.f0)||(s.f1.f1 != p.f1.f1)||(s.f1.f2 != p.f1.f2)):=by
  by_cases q1:31<(P++[p]).length
  ·rw[if_pos (by simpa using (by omega:((P++[p]:List Za).length:Int)>31)),decide_eq_true q1];simp
  ·rw[if_neg (by simpa using (by omega:¬ ((P++[p]:List Za     ).length:Int)>31)),decide_eq_false q1]
   cases decide (s.f0≤p.f0)<;>cases (s.f1.f0 != p.f1.f0)<;>cases (s.f1.f1 != p.f1.f1)<;>simp
 rw[if_neg hne,hat,sb,hb,sb,chkB (by simp at hl ⊢;omega),chkB (by simp at hl ⊢;omega),rall_eq _ hl2 hV (.inl rfl),sb,rall_eq _ hl2 hV (.inr rfl),sb,Z6o,Z6o]
 congr 2
 funext oo
 cases oo with
 | inl rr=>rfl
 | inr u=>cases decide ((allI 0 ((P++[p])++[s])).length≤512)<;>simp[sb]
theorem cfits (P:List Za) (p s:Za) (hl:(P++[p]).length≤900) (hV:∀ x∈(P++[p])++[s],Z1q x.f1) :
  Z04.f (P++[p]) s=(if(decide (31<(P++[p]).length)||decide (s.f0≤p.f0)||(s.f1.f0 != p.f1.f0)||(s.f1.f1 != p.f1.f1)||(s.f1.f2 != p.f1.f2))=true then some false else
   ((if(s.f1.f0==(0:Int))=true then((Z2u.f p.f1 s.f1)>>=fun t1460=>some t1460) else(some false)):Option (Bool))>>=fun x1462=>if x1462=true then(some false) else some (decide ((allI 0 ((P++[p])++[s])).length≤512)&&decide ((allI 1 ((P++[p])++[s])).length≤512))):=by
 have hla:((P++[p]:List Za).length:Int)=P.length+1:=by simp
 have hat:at? (P++[p]) (i64.wrap (((P++[p]:List Za).length:Int)-1))=some p:=by
  rw[hla,Zl (by simp at hl;omega) (by simp at hl;omega)];exact Z10 (pre:=P) (x:=p) (suf:=[]) rfl (by omega)
 have hne:¬ ((((P++[p]:List Za).length:Int)==0)=true):=by rw[hla];simp;omega
 have hl2:((P++[p])++[s]:List Za).length≤1000:=by simp at hl ⊢;omega
 unfold Z04.f
 have hal:Z2v.f p.f1 s.f1=some (!((s.f1.f0 != p.f1.f0)||(s.f1.f1 != p.f1.f1)||(s.f1.f2 != p.f1.f2))):=by
  unfold Z2v.f
  by_cases q0:p.f1.f0=s.f1.f0
  ·rw[if_pos (by simpa using q0),show(s.f1.f0 != p.f1.f0)=false by simp[q0]]
   by_cases q1:p.f1.f1=s.f1.f1
   ·rw[if_pos (by simpa using q1),sb,show(s.f1.f1 != p.f1.f1)=false by simp[q1]]
    by_cases q2:p.f1.f2=s.f1.f2
    ·rw[show(p.f1.f2==s.f1.f2)=true by simpa using q2,show(s.f1.f2 != p.f1.f2)=false by simp[q2]];rfl
    ·rw[show(p.f1.f2==s.f1.f2)=false by simpa using q2,show(s.f1.f2 != p.f1.f2)=true by simpa using fun h=>q2 h.symm];rfl
   ·rw[if_neg (by simpa using q1),sb,show(s.f1.f1 != p.f1.f1)=true by simpa using fun h=>q1 h.symm];rfl
  ·rw[if_neg (by simpa using q0),sb,show(s.f1.f0 != p.f1.f0)=true by simpa using fun h=>q0 h.symm];rfl
 have hb:((if(decide (((P++[p]:List Za).length:Int)≥(32:Int)))=true then(some true) else(if(decide (s.f0≤p.f0))=true then(some true) else((Z2v.f p.f1 s.f1)>>=fun t319=>some (!t319)))):Option (Bool))=some (decide (31<(P++[p]).length)||decide (s.f0≤p.f0)||(s.f1.f0 != p.f1.f0)||(s.f1.f1 != p.f1.f1)||(s.f1.f2 != p.f1.f2)):=by
  rw[hal,sb,Bool.not_not]
  by_cases q1:31<(P++[p]).length
  ·rw[if_pos (by simpa using (by omega:((P++[p]:List Za).length:Int)≥32)),decide_eq_true q1];simp
  ·rw[if_neg (by simpa using (by omega:¬ ((P++[p]:List Za     ).length:Int)≥32)),decide_eq_false q1]
   cases decide (s.f0≤p.f0)<;>simp[Bool.or_assoc]
 have hcl:Z0t.f (P++[p])=some (P++[p]):=by
  unfold Z0t.f
  rw[chkB (by simp at hl ⊢;omega)]
 rw[if_neg hne,hat,sb,hb,sb,hcl,sb,chkB (by simp at hl ⊢;omega),lays_eq _ hl2 hV,sb]
 have i0:=Z6x 0 _ hV
 have i1:=Z6x 1 _ hV
 have n0:=Z7y 0 _ hV
 have n1:=Z7y 1 _ hV
 dsimp only
 rw[ind_lay i0.sm (by omega),ind_lay i1.sm (by omega),sb,sb,Z6o,Z6o]
 congr 2
 funext x
 cases x with
 | true=>rfl
 | false=>cases decide ((allI 0 ((P++[p])++[s])).length≤512)<;>simp[sb]
theorem fit_fin (P:List Za) (p s:Za) (vs:Z1q s.f1) (ht:0≤s.f0∧s.f0≤1099511627776) (g:¬ (decide (31<(P++[p]).length)||decide (s.f0≤p.f0)||(s.f1.f0 != p.f1.f0)||(s.f1.f1 != p.f1.f1)||(s.f1.f2 != p.f1.f2))=true):∀ r:Bool,r=(decide ((allI 0 ((P++[p])++[s])).length≤512)&&decide ((allI 1 ((P++[p])++[s])).length≤512))→r=true→COk (P++[p])→COk ((P++[p])++[s]):=by
 have g2:(P++[p]).length≤31∧p.f0<s.f0∧s.f1.f0=p.f1.f0∧s.f1.f1=p.f1.f1∧s.f1.f2=p.f1.f2:=by
  simp only[Bool.or_eq_true,decide_eq_true_eq,bne_iff_ne,not_or,Classical.not_not] at g
  obtain⟨⟨⟨⟨q1,q2⟩,q3⟩,q4⟩,q5⟩:=g
  exact⟨by omega,by omega,q3,q4,q5⟩
 intro r hr ht2 hc
 rw[ht2] at hr
 have hr':=hr.symm
 simp only[Bool.and_eq_true,decide_eq_true_eq] at hr'
 refine⟨fun x hx => ?_,by simp at g2 ⊢;omega,?_,?_,hr'.1,hr'.2⟩
 ·rcases List.mem_append.1 hx with hx | hx
  ·exact hc.ok x hx
  ·simp at hx;subst hx;exact⟨vs,ht⟩
 ·refine List.pairwise_append.2 ⟨hc.up,by simp,fun a ha b hb => ?_⟩
  simp at hb;subst hb
  rcases List.mem_append.1 ha with ha | ha
  ·have:=(List.pairwise_append.1 hc.up).2.2 a ha p (by simp);omega
  ·simp at ha;subst ha;exact g2.2.1
 ·have hp:∀ x∈(P++[p])++[s],x.f1.f0=p.f1.f0∧x.f1.f1=p.f1.f1∧x.f1.f2=p.f1.f2:=fun x hx=>by
   rcases List.mem_append.1 hx with hx | hx
   ·exact hc.head x hx p (by simp)
   ·simp at hx;subst hx;exact g2.2.2
  intro x hx y hy
  have h1:=hp x hx
  have h2:=hp y hy
  exact⟨h1.1.trans h2.1.symm,h1.2.1.trans h2.2.1.symm,h1.2.2.trans h2.2.2.symm⟩
theorem fits_eq (l:List Za) (s:Za) (hl:l.length≤900) (hv:∀ x∈l++[s],Z1q x.f1∧Fits x.f1) (ht:0≤s.f0∧s.f0≤1099511627776) :
  ∃ r:Bool,Z04.f l s=some r∧Z2d.f l s=some r∧(r=true→COk l→COk (l++[s])):=by
 have vs:=hv s (by simp)
 rcases List.eq_nil_or_concat l with rfl | ⟨P,p,rfl⟩
 ·refine⟨true,?_,?_,fun _ _=>fit_nil s vs.1 ht⟩
  ·unfold Z04.f;rw[if_pos (by simp)]
  ·unfold Z2d.f;rw[if_pos (by simp)]
 simp only[List.concat_eq_append] at *
 have vp:=hv p (by simp)
 have hV:∀ x∈(P++[p])++[s],Z1q x.f1:=fun x hx=>(hv x hx).1
 rw[rfits P p s hl hV,cfits P p s hl hV]
 by_cases g:(decide (31<(P++[p]).length)||decide (s.f0≤p.f0)||(s.f1.f0 != p.f1.f0)||(s.f1.f1 != p.f1.f1)||(s.f1.f2 != p.f1.f2))=true
 ·exact⟨false,by rw[if_pos g],by rw[if_pos g],by simp⟩
 rw[if_neg g,if_neg g]
 have fin:=fit_fin P p s vs.1 ht g
 by_cases k0:s.f1.f0=0
 ·obtain⟨r,e1,q,e,e2,hr⟩:=reset_eq vs.1 vs.2 vp.1 vp.2
  rw[if_pos (by simpa using k0),if_pos (by simpa using k0),e1,e2,sb,sb,sb]
  dsimp only
  rw[← hr]
  cases r with
  | true=>exact⟨false,by rw[if_pos rfl],by rw[if_pos rfl,sb],by simp⟩
  | false=>exact⟨_,by rw[if_neg (by simp)],by rw[if_neg (by simp),sb],fin _ rfl⟩
 ·rw[if_neg (by simpa using k0),if_neg (by simpa using k0),sb,sb]
  exact⟨_,by rw[if_neg (by simp)],rfl,fin _ rfl⟩
theorem fits_p (l:List Za) (s:Za) (hl:l.length≤900) (hv:∀ x∈l++[s],Z1q x.f1∧Fits x.f1) (ht:0≤s.f0∧s.f0≤1099511627776) :
  ∃ r:Bool,Z04.f l s=some r∧(r=true→COk l→COk (l++[s])):=by
 have vs:=hv s (by simp)
 rcases List.eq_nil_or_concat l with rfl | ⟨P,p,rfl⟩
 ·refine⟨true,?_,fun _ _=>fit_nil s vs.1 ht⟩
  unfold Z04.f;rw[if_pos (by simp)]
 simp only[List.concat_eq_append] at *
 have vp:=hv p (by simp)
 have hV:∀ x∈(P++[p])++[s],Z1q x.f1:=fun x hx=>(hv x hx).1
 rw[cfits P p s hl hV]
 by_cases g:(decide (31<(P++[p]).length)||decide (s.f0≤p.f0)||(s.f1.f0 != p.f1.f0)||(s.f1.f1 != p.f1.f1)||(s.f1.f2 != p.f1.f2))=true
 ·exact⟨false,by rw[if_pos g],by simp⟩
 rw[if_neg g]
 have fin:=fit_fin P p s vs.1 ht g
 by_cases k0:s.f1.f0=0
 ·obtain⟨q,e,e1,_⟩:=sub_anyP s.f1 p.f1 vs.1 vs.2 vp.1 vp.2
  unfold Z2u.f
  rw[if_pos (by simpa using k0),e1,sb,sb,sb]
  by_cases k1:e=21
  ·exact⟨false,by rw[if_pos (by simpa using k1)],by simp⟩
  ·exact⟨_,by rw[if_neg (by simpa using k1)],fin _ rfl⟩
 ·rw[if_neg (by simpa using k0),sb]
  exact⟨_,by rw[if_neg (by simp)],fin _ rfl⟩
theorem Z7t {α:Type} {l pre suf:List α} {i:Int} (h:l=pre++suf) (hi:i=(pre.length:Int)):(l.drop (Int.toNat (0:Int))).take (Int.toNat i-Int.toNat (0:Int))=pre:=by
 rw[show Int.toNat (0:Int)=0 from rfl,List.drop_zero,Nat.sub_zero,hi,Int.toNat_natCast,h,List.take_left]
theorem chk_l0 (l:List Za) (hl:l.length<1000000000000000) (hf:∀ s∈l,Fits s.f1∧s.f1.f6.length<1000000000000000∧s.f1.f7.length<1000000000000000):∀ (suf pre:List Za) (i:Int),l=pre++suf→i=(pre.length:Int)→COk pre →
  ∃ r:Int ⊕ Unit,Z08.l0 l i=some r∧Z13.l0 l i=some r∧(∀ c,r = .inl c→c≠0)∧(r = .inr ()→COk l):=by
 intro suf
 induction suf with
 | nil =>
  intro pre i h1 hi hc
  rw[List.append_nil] at h1
  subst h1
  refine⟨.inr (),?_,?_,by simp,fun _=>hc⟩
  ·rw[Z08.l0,if_neg (by simp[hi])]
  ·rw[Z13.l0,if_neg (by simp[hi])]
 | cons s suf ih =>
  intro pre i h1 hi hc
  have hlen:l.length=pre.length+(suf.length+1):=by rw[h1];simp
  have hs:=hf s (by rw[h1];simp)
  have hT:∀ x:Int,((if(decide (x<(0:Int)))=true then(some true) else(some (decide (x>(1099511627776:Int))))):Option (Bool))=some (!decide (0≤x∧x≤1099511627776)):=fun x=>by
   by_cases c:x<0
   ·rw[if_pos (by simpa using c),decide_eq_false (by omega)];rfl
   ·rw[if_neg (by simpa using c)]
    by_cases c2:x>1099511627776
    ·rw[decide_eq_true c2,decide_eq_false (by omega)];rfl
    ·rw[decide_eq_false c2,decide_eq_true (by omega)];rfl
  by_cases ht:0≤s.f0∧s.f0≤1099511627776
  case neg =>
   refine⟨.inl 4,?_,?_,by simp,by simp⟩
   ·rw[Z08.l0,if_pos (by simp;omega),Z10 h1 hi,sb,hT,sb,if_pos (by rw[decide_eq_false ht];rfl)]
   ·rw[Z13.l0,if_pos (by simp;omega),Z10 h1 hi,sb,hT,sb,if_pos (by rw[decide_eq_false ht];rfl)]
  have hb:¬ ((!decide (0≤s.f0∧s.f0≤1099511627776))=true):=by rw[decide_eq_true ht];decide
  obtain⟨e,e1,e2,e3⟩:=Z7d s.f1 hs.1 hs.2.1 hs.2.2
  have A:Z08.l0 l i=(if(e != (0:Int))=true then some (.inl e) else((Z04.f pre s)>>=fun t1838=>if(!t1838)=true then(some (.inl 6)) else Z08.l0 l (i+1))):=by
   rw[Z08.l0,if_pos (by simp;omega),Z10 h1 hi,sb,hT,sb,if_neg hb,e1,sb,chkB (by omega),Z7t h1 hi,Zl (n:=i+1) (by omega) (by omega)]
  have B:Z13.l0 l i=(if(e != (0:Int))=true then some (.inl e) else((Z2d.f pre s)>>=fun t4809=>if(!t4809)=true then(some (.inl 6)) else Z13.l0 l (i+1))):=by
   rw[Z13.l0,if_pos (by simp;omega),Z10 h1 hi,sb,hT,sb,if_neg hb,sb,e2,sb,chkB (by omega),Z7t h1 hi,Zl (n:=i+1) (by omega) (by omega)]
  rw[A,B]
  by_cases he:e=0
  case neg=>exact⟨.inl e,by rw[if_pos (by simpa using he)],by rw[if_pos (by simpa using he)],fun c hc=>by cases hc;exact he,by simp⟩
  have hv:=e3.1 he
  rw[if_neg (by simpa using he),if_neg (by simpa using he)]
  obtain⟨r,f1,f2,f3⟩:=fits_eq pre s (by have:=hc.len;omega) (fun x hx=>by
   rcases List.mem_append.1 hx with hx | hx
   ·exact⟨(hc.ok x hx).1,(hf x (by rw[h1];simp[hx])).1⟩
   ·simp at hx;subst hx;exact⟨hv,hs.1⟩) ht
  rw[f1,f2,sb,sb]
  cases r with
  | false=>exact⟨.inl 6,rfl,rfl,by simp,by simp⟩
  | true =>
   obtain⟨r,g1,g2,g3,g4⟩:=ih (pre++[s]) (i+1) (by simp[h1]) (by simp;omega) (f3 rfl hc)
   exact⟨r,by rw[if_neg (by simp),g1],by rw[if_neg (by simp),g2],g3,g4⟩
theorem chk_eq (l:List Za) (hl:l.length<1000000000000000) (hf:∀ s∈l,Fits s.f1∧s.f1.f6.length<1000000000000000∧s.f1.f7.length<1000000000000000):∃ e,Z08.f l=some e∧Z13.f l=some e∧(e=0→COk l∧l≠[]):=by
 by_cases h0:l=[]
 ·subst h0;exact⟨30,rfl,rfl,by simp⟩
 have hn:¬ (((l.length:Int)==0)=true):=by
  have:l.length≠0:=fun h=>h0 (List.length_eq_zero_iff.1 h)
  simp;omega
 obtain⟨r,e1,e2,e3,e4⟩:=chk_l0 l hl hf l [] 0 rfl rfl COk.nil
 unfold Z08.f Z13.f
 rw[if_neg hn,if_neg hn,e1,e2,sb,sb]
 cases r with
 | inl c=>exact⟨c,rfl,rfl,fun h=>absurd h (e3 c rfl)⟩
 | inr u=>exact⟨0,rfl,rfl,fun _=>⟨e4 rfl,h0⟩⟩
end Go.Proofs.YtlclecehlekjoaaGreat.PvGK
set_option linter.unusedVariables false
set_option linter.unusedSimpArgs false
set_option maxRecDepth 10000
namespace Go.Proofs.YtlclecehlekjoaaGreat.PvGK
open Go Go.Pv Go.Pv.GS Go.IntKind
def row0 (r:List Int):List Bool:=r.flatMap fun n=>cnt2 n.toNat
end Go.Proofs.YtlclecehlekjoaaGreat.PvGK
set_option linter.unusedVariables false
set_option linter.unusedSimpArgs false
set_option maxRecDepth 10000
namespace Go.Proofs.YtlclecehlekjoaaGreat.PvGK
open Go Go.Pv Go.Pv.GS Go.IntKind
theorem eqloop {α:Type} [DecidableEq α] (a b:List α) (hl:a.length=b.length) (ha:a.length<1000000000) (ne:α→α→Bool) (hne:∀ x y,ne x y = !decide (x=y)) (F:Int→Option (Bool ⊕ Unit))
  (hF:∀ i,F i=if(decide (i<(a.length:Int)))=true then((at? a i)>>=fun x=>(at? b i)>>=fun y=>if ne x y=true then(some (.inl false)) else F (i64.wrap (i+(1:Int)))) else(some (.inr ()))) :
  ∀ (sa pa sb' pb:List α) (i:Int),a=pa++sa→b=pb++sb'→pa.length=pb.length→i=(pa.length:Int)→F i=some (if sa=sb' then .inr () else .inl false):=by
 intro sa
 induction sa with
 | nil =>
  intro pa sb' pb i h1 h2 h3 hi
  have e:sb'=[]:=by
   have l1:=congrArg List.length h1
   have l2:=congrArg List.length h2
   simp only[List.length_append,List.length_nil] at l1 l2
   exact List.length_eq_zero_iff.1 (by omega)
  rw[hF,if_neg (by rw[h1];simp[hi]),e,if_pos rfl]
 | cons x sa ih =>
  intro pa sb' pb i h1 h2 h3 hi
  have l1:=congrArg List.length h1
  have l2:=congrArg List.length h2
  simp only[List.length_append,List.length_cons] at l1 l2
  cases sb' with
  | nil=>simp only[List.length_nil] at l2;omega
  | cons y sb' =>
   rw[hF,if_pos (by simp;omega),Z10 h1 hi,sb,Z10 h2 (by omega),sb,hne,Zl (by omega) (by omega)]
   by_cases c:x=y
   ·subst c
    rw[if_neg (by simp),ih (pa++[x]) sb' (pb++[x]) (i+1) (by simp[h1]) (by simp[h2]) (by simp[h3]) (by simp;omega)]
    by_cases c2:sa=sb'
    ·rw[if_pos c2,if_pos (by rw[c2])]
    ·rw[if_neg c2,if_neg (by simp[c2])]
   ·rw[if_pos (by simp[c]),if_neg (by simp[c])]
theorem bkt_ne (x y:Z2):(!((x.f0==y.f0)&&((x.f1==y.f1)&&true))) = !decide (x=y):=by
 obtain⟨a,b⟩:=x;obtain⟨c,d⟩:=y
 by_cases h1:a=c<;>by_cases h2:b=d<;>simp[h1,h2]
theorem rsame_eq (a b:List Z2) (ha:a.length<1000000000):Z21.f a b=some (decide (a=b)):=by
 unfold Z21.f
 by_cases hl:a.length=b.length
 ·have L:=eqloop a b hl ha (fun x y => !((x.f0==y.f0)&&((x.f1==y.f1)&&true))) bkt_ne (       Z21.l0 a b) (fun i=>by rw[       Z21.l0]) a [] b [] 0 rfl rfl rfl rfl
  rw[if_neg (by simp;omega),L,sb]
  by_cases c:a=b
  ·rw[if_pos c,decide_eq_true c]
  ·rw[if_neg c,decide_eq_false c]
 ·rw[if_pos (by simp;omega),decide_eq_false (fun h=>hl (by rw[h]))]
theorem rSame_eq (a b:Ze) (h6:a.f6.length<1000000000) (h7:a.f7.length<1000000000):Z3w.f a b=some (decide (a=b)):=by
 unfold Z3w.f
 rw[rsame_eq _ _ h6,rsame_eq _ _ h7]
 obtain⟨a0,a1,a2,a3,a4,a5,a6,a7⟩:=a
 obtain⟨b0,b1,b2,b3,b4,b5,b6,b7⟩:=b
 simp only[sb]
 by_cases c0:a0=b0
 case neg=>rw[if_neg (by simpa using c0),sb,decide_eq_false (by simp[c0])]
 by_cases c1:a1=b1
 case neg=>rw[if_pos (by simpa using c0),if_neg (by simpa using c1),sb,decide_eq_false (by simp[c1])]
 by_cases c2:a2=b2
 case neg=>rw[if_pos (by simpa using c0),if_pos (by simpa using c1),if_neg (by simpa using c2),sb,decide_eq_false (by simp[c2])]
 by_cases c3:a3=b3
 case neg=>rw[if_pos (by simpa using c0),if_pos (by simpa using c1),if_pos (by simpa using c2),if_neg (by simpa using c3),sb,decide_eq_false (by simp[c3])]
 by_cases c4:a4=b4
 case neg=>rw[if_pos (by simpa using c0),if_pos (by simpa using c1),if_pos (by simpa using c2),if_pos (by simpa using c3),if_neg (by simpa using c4),sb,decide_eq_false (by simp[c4])]
 by_cases c5:a5=b5
 case neg=>rw[if_pos (by simpa using c0),if_pos (by simpa using c1),if_pos (by simpa using c2),if_pos (by simpa using c3),if_pos (by simpa using c4),if_neg (by simpa using c5),sb,decide_eq_false (by simp[c5])]
 rw[if_pos (by simpa using c0),if_pos (by simpa using c1),if_pos (by simpa using c2),if_pos (by simpa using c3),if_pos (by simpa using c4),if_pos (by simpa using c5)]
 by_cases c6:a6=b6
 case neg=>rw[if_neg (by simpa using c6),sb,decide_eq_false (by simp[c6])]
 by_cases c7:a7=b7
 case neg=>rw[if_pos (by simpa using c6),decide_eq_false c7,sb,decide_eq_false (by simp[c7])]
 rw[if_pos (by simpa using c6),decide_eq_true c7,sb,decide_eq_true (by simp[c0,c1,c2,c3,c4,c5,c6,c7])]
theorem smp_l0' (a b:List Za) (hl:a.length=b.length) (ha:a.length<1000000000) (hs:∀ s∈a,s.f1.f6.length<1000000000∧s.f1.f7.length<1000000000) :
  ∀ (sa pa sb' pb:List Za) (i:Int),a=pa++sa→b=pb++sb'→pa.length=pb.length→i=(pa.length:Int)→Z23.l0 a b i=some (if sa=sb' then .inr () else .inl false):=by
 intro sa
 induction sa with
 | nil =>
  intro pa sb' pb i h1 h2 h3 hi
  have e:sb'=[]:=by
   have l1:=congrArg List.length h1
   have l2:=congrArg List.length h2
   simp only[List.length_append,List.length_nil] at l1 l2
   exact List.length_eq_zero_iff.1 (by omega)
  rw[Z23.l0,if_neg (by rw[h1];simp[hi]),e,if_pos rfl]
 | cons x sa ih =>
  intro pa sb' pb i h1 h2 h3 hi
  have l1:=congrArg List.length h1
  have l2:=congrArg List.length h2
  simp only[List.length_append,List.length_cons] at l1 l2
  have hx:=hs x (by rw[h1];simp)
  cases sb' with
  | nil=>simp only[List.length_nil] at l2;omega
  | cons y sb' =>
   rw[Z23.l0,if_pos (by simp;omega),Z10 h1 hi,sb,Z10 h2 (by omega),sb,rSame_eq _ _ hx.1 hx.2,sb,Zl (by omega) (by omega)]
   have e:((if(x.f0 != y.f0)=true then(some true) else(some (!decide (x.f1=y.f1)))):Option Bool)=some (!decide (x=y)):=by
    obtain⟨a,b⟩:=x;obtain⟨c,d⟩:=y
    by_cases h1:a=c<;>by_cases h2:b=d<;>simp[h1,h2]
   rw[e,sb]
   by_cases c:x=y
   ·subst c
    rw[if_neg (by simp),ih (pa++[x]) sb' (pb++[x]) (i+1) (by simp[h1]) (by simp[h2]) (by simp[h3]) (by simp;omega)]
    by_cases c2:sa=sb'
    ·rw[if_pos c2,if_pos (by rw[c2])]
    ·rw[if_neg c2,if_neg (by simp[c2])]
   ·rw[if_pos (by simp[c]),if_neg (by simp[c])]
theorem same9_eq (a b:List Za) (ha:a.length<1000000000) (hs:∀ s∈a,s.f1.f6.length<1000000000∧s.f1.f7.length<1000000000):Z23.f a b=some (decide (a=b)):=by
 unfold Z23.f
 by_cases hl:a.length=b.length
 ·rw[if_neg (by simp;omega),smp_l0' a b hl ha hs a [] b [] 0 rfl rfl rfl rfl,sb]
  by_cases c:a=b
  ·rw[if_pos c,decide_eq_true c]
  ·rw[if_neg c,decide_eq_false c]
 ·rw[if_pos (by simp;omega),decide_eq_false (fun h=>hl (by rw[h]))]
end Go.Proofs.YtlclecehlekjoaaGreat.PvGK
set_option linter.unusedVariables false
set_option linter.unusedSimpArgs false
set_option maxRecDepth 10000
namespace Go.Proofs.YtlclecehlekjoaaGreat.PvGK
open Go Go.Pv Go.Pv.GS Go.IntKind
variable {b:List Int}
structure HOk (h:Ze):Prop where
 fits:Fits h
 pos:h.f6.length≤512
 neg:h.f7.length≤512
theorem HOk.zero:HOk (⟨0,0,0,0,0,0,[],[]⟩:Ze):=⟨⟨by decide,by decide,by decide,by decide,by decide,by decide,by simp,by simp⟩,by simp,by simp⟩
end Go.Proofs.YtlclecehlekjoaaGreat.PvGK
set_option linter.unusedVariables false
set_option linter.unusedSimpArgs false
set_option maxRecDepth 100000
namespace Go.Proofs.YtlclecehlekjoaaGreat.PvGK
open Go Go.Pv Go.Pv.GS Go.IntKind
theorem awake9:Z2m.f=some true:=by cbv
theorem light9_l0 (l:List Za) (hl:l.length<1000000000000000):∀ (suf pre:List Za) (x i:Int),l=pre++suf→i=(pre.length:Int)→∃ r,Z19.l0 l x i=some r:=by
 intro suf
 induction suf with
 | nil=>intro pre x i h1 hi;rw[Z19.l0,if_neg (by rw[h1];simp[hi])];exact⟨_,rfl⟩
 | cons s suf ih =>
  intro pre x i h1 hi
  have hlen:l.length=pre.length+(suf.length+1):=by rw[h1];simp
  rw[Z19.l0,if_pos (by simp;omega),Z10 h1 hi,sb,Zl (n:=i+1) (by omega) (by omega)]
  exact ih (pre++[s]) _ (i+1) (by simp[h1]) (by simp;omega)
theorem light9 (l:List Za) (hl:l.length<1000000000000000):∃ g,Z19.f l=some g:=by
 unfold Z19.f
 obtain⟨r,e⟩:=light9_l0 l hl l [] 0 0 rfl rfl
 rw[e,sb];exact⟨_,rfl⟩
end Go.Proofs.YtlclecehlekjoaaGreat.PvGK
