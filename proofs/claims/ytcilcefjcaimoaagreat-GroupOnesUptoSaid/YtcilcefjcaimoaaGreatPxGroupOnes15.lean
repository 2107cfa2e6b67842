import Derived.Test.YtcilcefjcaimoaaGreatPxGroupOnes14
set_option linter.unusedVariables false
set_option linter.unusedSimpArgs false
set_option maxRecDepth 10000
namespace Go.Proofs.YtcilcefjcaimoaaGreat.PvGQ
open Go Go.Pv Go.Pv.GS Go.IntKind
open Classical
structure Right8 (h:Z1):Prop where
 pos:h.f6.length≤100
 neg:h.f7.length≤100
 valid:Z1b h
abbrev Zbv (s:Int) (b:Z0):Zt:=⟨⟨-1,s,b.f0⟩,b.f1⟩
abbrev Z9w (s:Int) (b:Z0):Zt:=⟨⟨1,s,b.f0⟩,b.f1⟩
def Zbu (z:Int):List Zt:=if 0<z then [⟨⟨0,0,0⟩,z⟩] else []
def cells (h:Z1):List Zt:=(h.f7.reverse.map (Zbv h.f1)++Zbu h.f3)++h.f6.map (Z9w h.f1)
abbrev rc (c:Zt):Z4:=⟨c.f0.f0,c.f0.f1,c.f0.f2,c.f1⟩
theorem order_l0 (h:Z1) (hl:h.f7.length<1000000):∀ (suf pre:List Z0) (out:List Zt),h.f7.reverse=pre++suf→out.length≤pre.length →
  Z0x.l0 h out ((suf.length:Int)-1)=some (out++suf.map (Zbv h.f1)):=by
 intro suf
 induction suf with
 | nil=>intro pre out h1 h2;rw[Z0x.l0,if_neg (by simp)];simp
 | cons x suf ih =>
  intro pre out h1 h2;have hlen:h.f7.length=pre.length+(suf.length+1):=by rw[← List.length_reverse,h1];simp
  have hx:at? h.f7 (((x::suf).length:Int)-1)=some x:=by
   refine Z6c (k:=suf.length) (by simp) ?_;have:h.f7=(pre++x::suf).reverse:=by rw[← h1];simp
   rw[this];simp
  rw[Z0x.l0,if_pos (by simp),hx,sb,chkB (by simp;omega)];have e:i64.wrap ((((x::suf).length:Int)-1)-1)=(suf.length:Int)-1:=by rw[Zh (by simp;omega) (by simp;omega)];simp
  rw[e];have:=ih (pre++[x]) (out++[Zbv h.f1 x]) (by simp[h1]) (by simp;omega);simp only[Zbv] at this ⊢;rw[this];simp[Zbv]
theorem order_l1 (h:Z1) (hl:h.f6.length<1000000):∀ (suf pre:List Z0) (out:List Zt) (i:Int),h.f6=pre++suf→i=(pre.length:Int)→out.length≤1000001+pre.length →
  Z0x.l1 h out i=some (out++suf.map (Z9w h.f1)):=by
 intro suf
 induction suf with
 | nil=>intro pre out i h1 hi h2;rw[Z0x.l1,if_neg (by rw[h1];simp[hi])];simp
 | cons x suf ih =>
  intro pre out i h1 hi h2;have hlen:h.f6.length=pre.length+(suf.length+1):=by rw[h1];simp
  rw[Z0x.l1,if_pos (by simp;omega),Z0t h1 hi,sb,chkB (by simp;omega),Zh (by omega) (by omega)];have:=ih (pre++[x]) (out++[Z9w h.f1 x]) (i+1) (by simp[h1]) (by simp;omega) (by simp;omega);simp only[Z9w] at this ⊢;rw[this];simp[Z9w]
theorem order_eq (h:Z1) (hp:h.f6.length<1000000) (hn:h.f7.length<1000000):Z0x.f h=some (cells h):=by
 unfold Z0x.f;rw[Zh (by omega) (by omega)];have e:=order_l0 h hn h.f7.reverse [] [] (by simp) (by simp);rw[List.length_reverse] at e;rw[e,sb];have key:∀ o:List Zt,o.length≤1000001→((Z0x.l1 h o 0)>>=fun x=>some x)=some (o++h.f6.map (Z9w h.f1)):=by
  intro o ho;rw[order_l1 h hp h.f6 [] o 0 rfl rfl (by simp;omega),sb]
 by_cases hz:h.f3>0
 ·rw[if_pos (by simpa using hz),chkB (by simp;omega),sb,key _ (by simp;omega)]
  simp[cells,Zbu,hz]
 ·rw[if_neg (by simpa using hz),sb,key _ (by simp;omega)]
  simp[cells,Zbu,hz]
theorem ref_order_l0 (h:Z1) (hl:h.f7.length<1000000):∀ (suf pre:List Z0) (out:List Z4) (i:Int),h.f7.reverse=pre++suf→i=(pre.length:Int)→out.length≤pre.length →
  Z1a.l0 h out i=some (out++suf.map (fun b=>rc (Zbv h.f1 b))):=by
 intro suf
 induction suf with
 | nil =>
  intro pre out i h1 hi h2;have:h.f7.length=pre.length:=by rw[← List.length_reverse,h1];simp
  rw[Z1a.l0,if_neg (by simp;omega)];simp
 | cons x suf ih =>
  intro pre out i h1 hi h2;have hlen:h.f7.length=pre.length+(suf.length+1):=by rw[← List.length_reverse,h1];simp
  have hx:at? h.f7 (((h.f7.length:Int)-1)-i)=some x:=by
   refine Z6c (k:=suf.length) (by omega) ?_;have:h.f7=(pre++x::suf).reverse:=by rw[← h1];simp
   rw[this];simp
  rw[Z1a.l0,if_pos (by simp;omega),Zh (n:=(h.f7.length:Int)-1) (by omega) (by omega),Zh (n:=((h.f7.length:Int)-1)-i) (by omega) (by omega),hx,sb,chkB (by simp;omega),Zh (by omega) (by omega)];have:=ih (pre++[x]) (out++[rc (Zbv h.f1 x)]) (i+1) (by simp[h1]) (by simp;omega) (by simp;omega);simp only[Zbv,rc] at this ⊢;rw[this];simp
theorem ref_order_l1 (h:Z1) (hl:h.f6.length<1000000):∀ (suf pre:List Z0) (out:List Z4) (i:Int),h.f6=pre++suf→i=(pre.length:Int)→out.length≤1000001+pre.length →
  Z1a.l1 h out i=some (out++suf.map (fun b=>rc (Z9w h.f1 b))):=by
 intro suf
 induction suf with
 | nil=>intro pre out i h1 hi h2;rw[Z1a.l1,if_neg (by rw[h1];simp[hi])];simp
 | cons x suf ih =>
  intro pre out i h1 hi h2;have hlen:h.f6.length=pre.length+(suf.length+1):=by rw[h1];simp
  rw[Z1a.l1,if_pos (by simp;omega),Z0t h1 hi,sb,chkB (by simp;omega),Zh (by omega) (by omega)];have:=ih (pre++[x]) (out++[rc (Z9w h.f1 x)]) (i+1) (by simp[h1]) (by simp;omega) (by simp;omega);simp only[Z9w,rc] at this ⊢;rw[this];simp
theorem Za4 (h:Z1) (hp:h.f6.length<1000000) (hn:h.f7.length<1000000):Z1a.f h=some ((cells h).map rc):=by
 unfold Z1a.f;rw[ref_order_l0 h hn h.f7.reverse [] [] 0 (by simp) rfl (by simp),sb];have key:∀ o:List Z4,o.length≤1000001→((Z1a.l1 h o 0)>>=fun x=>some x)=some (o++h.f6.map (fun b=>rc (Z9w h.f1 b))):=by
  intro o ho;rw[ref_order_l1 h hp h.f6 [] o 0 rfl rfl (by simp;omega),sb]
 by_cases hz:h.f3>0
 ·rw[if_pos (by simpa using hz),chkB (by simp;omega),sb,key _ (by simp;omega)]
  simp[cells,Zbu,hz,rc,Function.comp_def]
 ·rw[if_neg (by simpa using hz),sb,key _ (by simp;omega)]
  simp[cells,Zbu,hz,Function.comp_def]
def csum (l:List Zt):Int:=(l.map (·.f1)).sum
theorem Z6z (c:Zt) (l:List Zt):csum (c::l)=c.f1+csum l:=by simp[csum]
theorem Z5k (a b:List Zt):csum (a++b)=csum a+csum b:=by simp[csum]
theorem Z7d {l:List Zt} (h:∀ c∈l,0<c.f1):0≤csum l:=Z5g (fun x hx=>by
 obtain⟨c,hc,rfl⟩:=List.mem_map.1 hx;have:=h c hc;omega)
theorem Z50 {h:Z1} (v:Z1b h):∀ c∈cells h,0<c.f1:=by
 intro c hc;simp only[cells,List.mem_append,List.mem_map,List.mem_reverse] at hc;rcases hc with (⟨b,hb,rfl⟩ | hc) | ⟨b,hb,rfl⟩
 ·exact(v.neg.ok b hb).pos
 ·unfold Zbu   at hc;split at hc
  ·simp at hc;subst hc;assumption
  ·simp at hc
 ·exact(v.pos.ok b hb).pos
theorem csum_map (l:List Z0) (f:Z0→Zt) (h:∀ b,(f b).f1=b.f1):csum (l.map f)=cnt l:=by
 simp[csum,cnt,Function.comp_def,h]
theorem cnt_reverse (l:List Z0):cnt l.reverse=cnt l:=by
 unfold cnt;rw[List.map_reverse];exact isum_perm (List.reverse_perm _)
theorem Z95 {h:Z1} (v:Z1b h) (f:Fits h):csum (cells h)=h.f4:=by
 rw[cells,Z5k,Z5k,csum_map _ _ (fun b=>rfl),csum_map _ _ (fun b=>rfl),cnt_reverse,v.count];have hz:csum (Zbu h.f3)=h.f3:=by
  unfold Zbu;split
  ·simp[csum]
  ·have:=f.zero.1;simp[csum];omega
 omega
theorem Z96 {h:Z1} (v:Z1b h):(cells h).length≤1025:=by
 have h1:=v.pos.len;have h2:=v.neg.len;simp only[cells,List.length_append,List.length_map,List.length_reverse];have:(Zbu h.f3).length≤1:=by unfold Zbu;split<;>simp
 omega
def pick:List Zt→Int→Option Zt
 | [],_=>none
 | c::l,n=>if n≤c.f1 then some c else pick l (n-c.f1)
theorem pick_some:∀ (l:List Zt) (n:Int),n≤csum l→0<n→∃ c,pick l n=some c∧c∈l
 | [],n,h,h0=>by simp[csum] at h;omega
 | c::l,n,h,h0=>by
  unfold pick;split
  ·exact⟨c,rfl,by simp⟩
  ·rw[Z6z      ] at h
   obtain⟨d,e,m⟩:=pick_some l (n-c.f1) (by omega) (by omega);exact⟨d,e,by simp[m]⟩
theorem at_l0 (l:List Zt) (hl:l.length<1000000) (hp:∀ c∈l,0<c.f1):∀ (suf pre:List Zt) (n i:Int),l=pre++suf→i=(pre.length:Int)→U64 n →
  Z39.l0 l n i=some (match pick suf n with | some c=>.inl (c.f0,0) | none=>.inr ()):=by
 intro suf
 induction suf with
 | nil=>intro pre n i h1 hi hn;rw[Z39.l0,if_neg (by rw[h1];simp[hi])];rfl
 | cons x suf ih =>
  intro pre n i h1 hi hn;have hlen:(l.length:Int)=pre.length+(suf.length+1):=by rw[h1];simp
  have hx:=hp x (by rw[h1];simp);rw[Z39.l0,if_pos (by simp;omega),Z0t h1 hi,sb,pick];by_cases c:n≤x.f1
  ·rw[if_pos (by simpa using c),if_pos c]
  ·rw[if_neg (by simpa using c),if_neg c,Zh     (by omega) (by omega),Z28   (by omega) (by have:=hn.2;omega)]
   exact ih (pre++[x]) _ _ (by simp[h1]) (by simp;omega) ⟨by omega,by have:=hn.2;omega⟩
def k0:Z8:=⟨0,0,0⟩
theorem at_cases (h:Z1) (v:Z1b h) (f:Fits h) (n:Int) (hn:U64 n) :
  (∃ e,e≠0∧Z39.f h n=some (k0,e)∧¬ (1≤n∧n≤h.f4))∨(1≤n∧n≤h.f4∧∃ c,pick (cells h) n=some c∧c∈cells h∧Z39.f h n=some (c.f0,0)):=by
 unfold Z39.f;by_cases h0:h.f4=0
 ·rw[if_pos (by simpa using h0)]
  exact .inl ⟨30,by decide,rfl,by omega⟩
 rw[if_neg (by simpa using h0)];by_cases h1:n<1
 ·rw[if_pos (by simpa using h1),sb];exact .inl ⟨4,by decide,rfl,by omega⟩
 rw[if_neg (by simpa using h1),sb];by_cases h2:n>h.f4
 ·rw[if_pos (by simpa using h2)];exact .inl ⟨4,by decide,rfl,by omega⟩
 rw[if_neg (by simpa using h2)];have lp:=v.pos.len;have ln:=v.neg.len;have lc:=Z96 v;rw[order_eq h (by omega) (by omega),sb,at_l0 (cells h) (by omega) (Z50 v) (cells h) [] n 0 rfl rfl hn];obtain⟨c,e,m⟩:=pick_some (cells h) n (by rw[Z95 v f];omega) (by omega);rw[e,sb];exact .inr ⟨by omega,by omega,c,rfl,m,rfl⟩
def lo (h:Z1) (c:Zt):Int:=if c.f0.f0>0 then 1048576+(c.f0.f2-1)*stp h.f1 else if c.f0.f0<0 then -1048576-c.f0.f2*stp h.f1 else if h.f2 = -524288 then 0 else -1048576-h.f2
def hi (h:Z1) (c:Zt):Int:=if c.f0.f0>0 then 1048576+c.f0.f2*stp h.f1 else if c.f0.f0<0 then -1048576-(c.f0.f2-1)*stp h.f1 else if h.f2 = -524288 then 0 else 1048576+h.f2
inductive Zd7 (h:Z1):Zt→Prop
 | neg (b:Z0) (hb:b∈h.f7) (ok:BOk h.f1 h.f2 b):Zd7 h (Zbv h.f1 b)
 | zero (hz:0<h.f3):Zd7 h ⟨⟨0,0,0⟩,h.f3⟩
 | pos (b:Z0) (hb:b∈h.f6) (ok:BOk h.f1 h.f2 b):Zd7 h (Z9w h.f1 b)
theorem cells_ok {h:Z1} (v:Z1b h):∀ c∈cells h,Zd7 h c:=by
 intro c hc;simp only[cells,List.mem_append,List.mem_map,List.mem_reverse] at hc;rcases hc with (⟨b,hb,rfl⟩ | hc) | ⟨b,hb,rfl⟩
 ·exact .neg b hb (v.neg.ok b hb)
 ·unfold Zbu   at hc;split at hc
  ·simp at hc;subst hc;exact .zero (by assumption)
  ·simp at hc
 ·exact .pos b hb (v.pos.ok b hb)
theorem Z81 {s i:Int} (hs:Z19 s) (hi:InS s i) : -262144-4096<(i-1)*stp s∧(i-1)*stp s<262144 ∧ -262144<i*stp s∧i*stp s≤262144∧(i-1)*stp s<i*stp s:=by
 have h1:=Z56 s;have h2:=stp_le hs;have h3:=hi.1;have h4:=hi.2;have e:(i-1)*stp s=i*stp s-stp s:=by rw[Int.sub_mul,Int.one_mul]
 omega
theorem ends_eq {h:Z1} (v:Z1b h) {c:Zt} (hc:Zd7 h c):Z5i.f h c=some (lo h c,hi h c):=by
 unfold Z5i.f;cases hc with
 | neg b hb ok =>
  have:=Z81 v.schema ok.ins;simp only[Zbv,lo,hi];rw[if_neg (show ¬ decide ((-1:Int)>0)=true by decide),if_pos (show decide ((-1:Int)<0)=true by decide),Zam v.schema ok.ins,sb,low_T v.schema ok.ins,sb,Zh (by omega) (by omega),Zh (by omega) (by omega)];simp
 | zero hz =>
  simp only[lo,hi];rw[if_neg (show ¬ decide ((0:Int)>0)=true by decide),if_neg (show ¬ decide ((0:Int)<0)=true by decide)];have:=v.zero;by_cases h0:h.f2 = -524288
  ·rw[h0];simp
  ·rw[if_neg (show ¬ (h.f2 == -524288)=true by simpa using h0),Zh (by omega) (by omega),Zh (by omega) (by omega)];simp[h0]
 | pos b hb ok =>
  have:=Z81 v.schema ok.ins;simp only[Z9w,lo,hi];rw[if_pos (show decide ((1:Int)>0)=true by decide),Zam v.schema ok.ins,low_T v.schema ok.ins,sb,sb,Zh (by omega) (by omega),Zh (by omega) (by omega)];simp
def bsum (h:Z1) (a:Int):List Zt→Int
 | []=>0
 | c::l=>(if hi h c≤a then c.f1 else 0)+bsum h a l
def msum (h:Z1) (a:Int):List Zt→Int
 | []=>0
 | c::l=>(if hi h c≤a then 0 else if lo h c<a then c.f1 else 0)+msum h a l
theorem Zbw (h:Z1) (a:Int) (l m:List Zt):bsum h a (l++m)=bsum h a l+bsum h a m:=by
 induction l with
 | nil=>simp[bsum]
 | cons c l ih=>simp only[List.cons_append,bsum,ih];omega
theorem Zbh (h:Z1) (a:Int) (l m:List Zt):msum h a (l++m)=msum h a l+msum h a m:=by
 induction l with
 | nil=>simp[msum]
 | cons c l ih=>simp only[List.cons_append,msum,ih];omega
theorem bmsum (h:Z1) (a:Int) (l:List Zt) (hp:∀ c∈l,0<c.f1):0≤bsum h a l∧0≤msum h a l∧bsum h a l+msum h a l≤csum l:=by
 induction l with
 | nil=>simp[bsum,msum,csum]
 | cons c l ih =>
  have h1:=ih (fun d hd=>hp d (by simp[hd]));have h2:=hp c (by simp);rw[Z6z,bsum,msum];split
  ·omega
  ·split<;>omega
theorem below_l0 {h:Z1} (v:Z1b h) (f:Fits h) (a:Int):∀ (suf pre:List Zt) (i:Int),cells h=pre++suf→i=(pre.length:Int) →
  Z1z.l0 h a (cells h) (bsum h a pre) (msum h a pre) i=some (bsum h a (cells h),msum h a (cells h)):=by
 have hl:=Z96 v;have hs:=Z95 v f;have fc:=f.count;intro suf
 induction suf with
 | nil=>intro pre i h1 hi;rw[Z1z.l0,if_neg (by rw[h1];simp[hi]),h1,List.append_nil]
 | cons x suf ih =>
  intro pre i h1 hi';have hlen:((cells h).length:Int)=pre.length+(suf.length+1):=by rw[h1];simp
  have hx:=Z50 v x (by rw[h1];simp);have hok:=cells_ok v x (by rw[h1];simp);have hb:=bmsum h a pre (fun c hc=>Z50 v c (by rw[h1];simp[hc]));have hsuf:=Z7d (l:=suf) (fun c hc=>Z50 v c (by rw[h1];simp[hc]));have hsum:csum (cells h)=csum pre+(x.f1+csum suf):=by rw[h1,Z5k,Z6z]
  have key:=ih (pre++[x]) (i+1) (by simp[h1]) (by simp;omega);rw[Zbw,Zbh] at key;simp only[bsum,msum,Int.add_zero] at key;have fc2:=fc.2;rw[Z1z.l0,if_pos (by simp;omega),Z0t h1 hi',sb,ends_eq v hok,sb]
  try dsimp only
  rw[Zh (n:=i+1) (by omega) (by omega),Z28 (n:=bsum h a pre+x.f1) (by omega) (by omega),Z28 (n:=msum h a pre+x.f1) (by omega) (by omega)];by_cases c1:hi h x≤a
  ·rw[if_pos (by simpa using c1),sb]
   try dsimp only
   rw[if_pos c1,if_pos c1] at key;rw[Int.add_zero] at key;exact key
  ·rw[if_neg (by simpa using c1)]
   rw[if_neg c1,if_neg c1] at key;by_cases c2:lo h x<a
   ·rw[if_pos (by simpa using c2),sb,sb]
    try dsimp only
    rw[if_pos c2] at key;rw[Int.add_zero] at key;exact key
   ·rw[if_neg (by simpa using c2),sb,sb]
    try dsimp only
    rw[if_neg c2] at key;rw[Int.add_zero,Int.add_zero] at key;exact key
def Z3e (p:Z0e):Prop:=(p.f0=0∧p.f1=0)∨((p.f0=1∨p.f0 = -1) ∧ -262144<p.f1∧p.f1≤262144)
def spt (p:Z0e):Int:=if p.f0>0 then 1048576+p.f1 else if p.f0<0 then -1048576-p.f1 else 0
theorem place_cond (p:Z0e):((if(decide (p.f0<(-1)))=true then(some true) else(if(decide (p.f0>(1:Int)))=true then(some true) else(if(p.f0 != (0:Int))=true then(if(decide (p.f1≤(-262144)))=true then(some true) else(if(decide (p.f1>(262144:Int)))=true then(some true) else(if(p.f0==(0:Int))=true then(some (p.f1 != (0:Int))) else(some false)))) else(if(p.f0==(0:Int))=true then(some (p.f1 != (0:Int))) else(some false))))):Option (Bool))=some (decide (¬ Z3e p)):=by
 by_cases h1:p.f0 < -1
 ·rw[if_pos (by simpa using h1),decide_eq_true (by unfold Z3e;omega)]
 rw[if_neg (by simpa using h1)];by_cases h2:p.f0>1
 ·rw[if_pos (by simpa using h2),decide_eq_true (by unfold Z3e;omega)]
 rw[if_neg (by simpa using h2)];by_cases h3:p.f0=0
 ·rw[if_neg (by simp[h3]),if_pos (by simp[h3])]
  by_cases h4:p.f1=0
  ·rw[decide_eq_false (by unfold Z3e;omega)];simp[h4]
  ·rw[decide_eq_true (by unfold Z3e;omega)];simp[h4]
 rw[if_pos (by simpa using h3)];by_cases h4:p.f1 ≤ -262144
 ·rw[if_pos (by simpa using h4),decide_eq_true (by unfold Z3e;omega)]
 rw[if_neg (by simpa using h4)];by_cases h5:p.f1>262144
 ·rw[if_pos (by simpa using h5),decide_eq_true (by unfold Z3e;omega)]
 rw[if_neg (by simpa using h5),if_neg (by simpa using h3),decide_eq_false (by unfold Z3e;omega)]
theorem spot_eq {p:Z0e} (hp:Z3e p):Z5h.f p=some (spt p):=by
 unfold Z5h.f spt;unfold Z3e at hp;by_cases h1:p.f0>0
 ·rw[if_pos (by simpa using h1),if_pos h1,Zh (by omega) (by omega)]
 rw[if_neg (by simpa using h1),if_neg h1];by_cases h2:p.f0<0
 ·rw[if_pos (by simpa using h2),if_pos h2,Zh (by omega) (by omega)]
 rw[if_neg (by simpa using h2),if_neg h2]
def p0:Ze:=⟨0,0,0⟩
theorem below_eq {h:Z1} (v:Z1b h) (f:Fits h) (p:Z0e):Z1z.f h p=some (if ¬ Z3e p then(p0,1) else if h.f4=0 then(p0,30) else(⟨bsum h (spt p) (cells h),msum h (spt p) (cells h),h.f4⟩,0)):=by
 unfold Z1z.f;rw[place_cond,sb];by_cases hp:Z3e p
 case neg=>rw[if_pos (by simpa using hp),if_pos hp];rfl
 rw[if_neg (by simpa using hp),if_neg (not_not_intro hp)];by_cases h0:h.f4=0
 ·rw[if_pos (by simpa using h0),if_pos h0];rfl
 rw[if_neg (by simpa using h0),if_neg h0];have lp:=v.pos.len;have ln:=v.neg.len;rw[spot_eq hp,sb,order_eq h (by omega) (by omega),sb,show Z1z.l0 h (spt p) (cells h) 0 0 0=_ from below_l0 v f (spt p) (cells h) [] 0 rfl rfl,sb]
def wsum (l:List Z0) (w:Int→Int):Int:=(l.map (fun b=>b.f1*w b.f0)).sum
theorem Z8n (b:Z0) (l:List Z0) (w:Int→Int):wsum (b::l) w=b.f1*w b.f0+wsum l w:=by simp[wsum]
theorem wsum_append (a b:List Z0) (w:Int→Int):wsum (a++b) w=wsum a w+wsum b w:=by simp[wsum]
theorem wsum_split (l:List Z0) (i:Int) (w:Int→Int):wsum l w=tot l i*w i+wsum (l.filter (fun b=>decide (b.f0≠i))) w:=by
 induction l with
 | nil=>simp[wsum,tot]
 | cons b l ih =>
  rw[Z8n,ih,tot];by_cases h:b.f0=i
  ·subst h;simp[Int.add_mul];omega
  ·rw[if_neg h,List.filter_cons_of_pos (by simpa using h),Z8n,Int.zero_add];omega
theorem Z6r (l:List Z0) (p:Int→Bool) (i:Int):tot (l.filter (fun b=>p b.f0)) i=if p i=true then tot l i else 0:=by
 induction l with
 | nil=>simp[tot]
 | cons b l ih =>
  by_cases h:p b.f0=true
  ·rw[List.filter_cons_of_pos (by simpa using h),tot,ih,tot]
   by_cases e:b.f0=i
   ·subst e;simp[h]
   ·simp[e]
  ·rw[List.filter_cons_of_neg (by simpa using h),ih,tot]
   by_cases e:b.f0=i
   ·subst e;simp[h]
   ·simp[e]
theorem wsum_zero:∀ (n:Nat) (l:List Z0),l.length≤n→(∀ i,tot l i=0)→∀ w,wsum l w=0:=by
 intro n
 induction n with
 | zero =>
  intro l hn _ w;obtain rfl:l=[]:=List.length_eq_zero_iff.1 (by omega);rfl
 | succ n ih =>
  intro l hn h w;cases l with
  | nil=>rfl
  | cons b l =>
   rw[wsum_split _ b.f0,h,Int.zero_mul,Int.zero_add];refine ih _ ?_ (fun i => ?_) w
   ·rw[List.filter_cons_of_neg (by simp)]
    have:=List.length_filter_le (fun b':Z0=>decide (b'.f0≠b.f0)) l;simp only[List.length_cons] at hn;omega
   ·have:=Z6r        (b::l) (fun j=>decide (j≠b.f0)) i
    rw[this,h];simp
def negl (l:List Z0):List Z0:=l.map (fun b=>⟨b.f0,-b.f1⟩)
theorem Z8o (l:List Z0) (i:Int):tot (negl l) i = - tot l i:=by
 induction l with
 | nil=>rfl
 | cons b l ih=>simp only[negl,List.map_cons,tot] at *;rw[ih];split<;>omega
theorem Z7h (l:List Z0) (w:Int→Int):wsum (negl l) w = - wsum l w:=by
 induction l with
 | nil=>rfl
 | cons b l ih=>rw[negl,List.map_cons,Z8n,Z8n];rw[negl] at ih;rw[ih];simp[Int.neg_mul];omega
theorem wsum_congr {l l':List Z0} (h:∀ i,tot l i=tot l' i) (w:Int→Int):wsum l w=wsum l' w:=by
 have:=wsum_zero _ (l++negl l') (Nat.le_refl _) (fun i=>by rw[Z1x,Z8o,h];omega) w;rw[wsum_append,Z7h] at this;omega
theorem Z5o (l:List Z0):cnt l=wsum l (fun _=>1):=by simp[cnt,wsum]
theorem Z4n {l l':List Z0} (h:∀ i,tot l i=tot l' i):cnt l=cnt l':=by rw[Z5o,Z5o,wsum_congr h]
theorem Z9h {l:List Z0} (h:Nn l) (i:Int):tot l i≤cnt l:=by
 induction l with
 | nil=>simp[tot,cnt]
 | cons b l ih =>
  have:=h b (by simp);have h2:Nn l:=fun y hy=>h y (by simp[hy]);have:=ih h2;have:=Z0a h2;rw[tot,Z51];split<;>omega
theorem Z70 (l:List Z0) (p:Z0→Bool):cnt (l.filter p)+cnt (l.filter (fun b => !p b))=cnt l:=by
 induction l with
 | nil=>rfl
 | cons b l ih =>
  cases h:p b with
  | true=>rw[List.filter_cons_of_pos h,List.filter_cons_of_neg (by simp[h]),Z51,Z51];omega
  | false=>rw[List.filter_cons_of_neg (by simp[h]),List.filter_cons_of_pos (by simp[h]),Z51,Z51];omega
structure Bs (s z:Int) (l:List Z0):Prop where
 len:l.length≤5000
 ok:∀ b∈l,InS s b.f0∧0≤b.f1∧z≤(b.f0-1)*stp s
theorem Bs.nn {s z:Int} {l:List Z0} (h:Bs s z l):Nn l:=fun b hb=>(h.ok b hb).2.1
theorem le_cnt {l:List Z0} (h:Nn l) {b:Z0} (hb:b∈l):b.f1≤cnt l:=Int.le_trans (tot_mem h hb) (Z9h h _)
theorem Z9i {s z:Int} {l:List Z0} (h:Bs s z l) (ht:cnt l<18446744073709551616) :
  ∃ o,Z1k.f l=some (o,0)∧Z3v o∧(∀ i,tot o i=tot l i)∧(∀ b∈o,BOk s z b)∧(∀ b∈o,U64 b.f1)∧o.length≤l.length∧cnt o=cnt l:=by
 have hl:=h.len;rcases Zb0 l (by omega) (fun b hb=>⟨h.nn b hb,by have:=le_cnt h.nn hb;omega⟩) with ⟨o,e,h1,h2,h3,h4,h5⟩ | ⟨e,i,h1⟩
 ·refine⟨o,e,h1,h2,fun b hb => ?_,h3,h5,Z4n       h2⟩
  obtain⟨p,hp,e⟩:=h4 b hb;have:=h.ok p hp;exact⟨e ▸ this.1,h1.pos b hb,e ▸ this.2.2⟩
 ·have:=Z9h h.nn i;omega
theorem Zbm {s i:Int} (h:InS s i):I64 i:=by have:=Z3y h;constructor<;>omega
theorem Z6v (g:Z1) (p n:List Z0) (hk:g.f0=0∨g.f0=1) (hs:Z19 g.f1) (hz:g.f2 = -524288∨(-262144<g.f2∧g.f2≤262144)) (h3:0≤g.f3) (h5:I64 g.f5)
  (hp:Bs g.f1 g.f2 p) (hn:Bs g.f1 g.f2 n) (ht:cnt p+cnt n+g.f3<18446744073709551616) (hl:∀ o,Z3v o→(((∀ i,tot o i=tot p i)∧o.length≤p.length)∨((∀ i,tot o i=tot n i)∧o.length≤n.length))→o.length≤512) :
  ∃ r,Z2f.f g p n=some (r,0)∧Z1b r∧Fits r∧r.f0=g.f0∧r.f1=g.f1∧r.f2=g.f2∧r.f3=g.f3∧r.f5=g.f5∧(∀ i,tot r.f6 i=tot p i)∧(∀ i,tot r.f7 i=tot n i)∧r.f4=cnt p+cnt n+g.f3:=by
 have np:=Z0a hp.nn;have nn:=Z0a hn.nn;obtain⟨o,e1,c1,t1,b1,u1,l1,q1⟩:=Z9i hp (by omega);obtain⟨o2,e2,c2,t2,b2,u2,l2,q2⟩:=Z9i hn (by omega);have hlp:=hp.len;have hln:=hn.len;have htot:=total3 o o2 g.f3 (by omega) (by omega) u1 u2 ⟨h3,by omega⟩;rw[q1,q2,if_pos ht] at htot;have hf:Fits (⟨g.f0,g.f1,g.f2,g.f3,cnt p+cnt n+g.f3,g.f5,o,o2⟩:Z1) :=
  ⟨by rcases hk with h | h<;>rw[h]<;>constructor<;>omega,by have:=hs.1;have:=hs.2;constructor<;>simp<;>omega,by rcases hz with h | h<;>constructor<;>simp<;>omega,⟨h3,by simp;omega⟩,⟨by simp;omega,ht⟩,h5,
   fun b hb=>⟨Zbm (b1 b hb).ins,u1 b hb⟩,fun b hb=>⟨Zbm (b2 b hb).ins,u2 b hb⟩⟩
 have hv:Z1b (⟨g.f0,g.f1,g.f2,g.f3,cnt p+cnt n+g.f3,g.f5,o,o2⟩:Z1) :=
  ⟨hk,hs,hz,⟨hl o c1 (.inl ⟨t1,l1⟩),b1,c1.up⟩,⟨hl o2 c2 (.inr ⟨t2,l2⟩),b2,c2.up⟩,by simp only[q1,q2];exact ht,by simp only[q1,q2]⟩
 refine⟨_,?_,hv,hf,rfl,rfl,rfl,rfl,rfl,t1,t2,rfl⟩;unfold Z2f.f;rw[e1,e2,sb,sb,if_neg (by simp),htot,sb,if_neg (by simp),check_T _ hf hv,sb,if_neg (by simp)]
def Z3u (s a:Int) (l:List Z0):Prop:=∃ b∈l,(b.f0-1)*stp s<a∧a<b.f0*stp s
def cg (s a:Int):Int:=-((-a) / stp s)*stp s
theorem cg_eq {s a i:Int} (h1:(i-1)*stp s<a) (h2:a≤i*stp s):cg s a=i*stp s:=by
 have hp:=Z56 s;unfold cg;generalize stp s=st at *;have : -((-a) / st)=i:=by
  have e1:=Int.ediv_mul_le (-a) (show st≠0 by omega);have e2:=Int.lt_ediv_add_one_mul_self (-a) hp;generalize (-a) / st=q at *;rw[Int.add_mul] at e2;rw[Int.sub_mul] at h1;have a1 : -q*st<(i+1)*st:=by rw[Int.neg_mul,Int.add_mul];omega
  have a2:(i-1)*st < -q*st:=by rw[Int.neg_mul,Int.sub_mul];omega
  have b1:=Int.lt_of_mul_lt_mul_right a1 (by omega);have b2:=Int.lt_of_mul_lt_mul_right a2 (by omega);omega
 rw[this]
theorem edge_l0 (h:Z1) (l:List Z0) (a:Int) (hs:Z19 h.f1) (hl:l.length<1000000000) (hi:∀ b∈l,InS h.f1 b.f0):∀ (suf pre:List Z0) (i:Int),l=pre++suf→i=(pre.length:Int) →
  Z2l.l0 h l a i=some (if Z3u h.f1 a suf then .inl (cg h.f1 a) else .inr ()):=by
 intro suf
 induction suf with
 | nil =>
  intro pre i h1 hi0;subst h1;rw[Z2l.l0,if_neg (by simp[hi0]),if_neg (by simp[Z3u])]
 | cons x suf ih =>
  intro pre i h1 hi0;have hx:=hi x (by rw[h1];simp);have hlen:(l.length:Int)=pre.length+(suf.length+1):=by rw[h1];simp
  rw[Z2l.l0,if_pos (by simp;omega),Z0t h1 hi0,sb,low_T hs hx,sb,Zam hs hx,sb,ifand,sb,sb];by_cases hc:(x.f0-1)*stp h.f1<a∧a<x.f0*stp h.f1
  ·rw[if_pos (by simpa using hc),if_pos ⟨x,by simp,hc⟩,cg_eq hc.1 (by omega)]
  ·rw[if_neg (by simpa using hc),Zh     (by omega) (by omega),ih (pre++[x]) (i+1) (by simp[h1]) (by simp;omega)]
   have:Z3u h.f1 a (x::suf)↔Z3u h.f1 a suf:=by
    constructor
    ·rintro⟨b,hb,h⟩
     rcases List.mem_cons.1 hb with rfl | hb
     ·exact absurd h hc
     ·exact⟨b,hb,h⟩
    ·rintro⟨b,hb,h⟩;exact⟨b,by simp[hb],h⟩
   by_cases hst:Z3u h.f1 a suf
   ·rw[if_pos hst,if_pos (this.2 hst)]
   ·rw[if_neg hst,if_neg (fun q=>hst (this.1 q))]
theorem edge_eq (h:Z1) (l:List Z0) (a:Int) (hs:Z19 h.f1) (hl:l.length<1000000000) (hi:∀ b∈l,InS h.f1 b.f0) :
  Z2l.f h l a=some (if Z3u h.f1 a l then cg h.f1 a else a):=by
 unfold Z2l.f;rw[edge_l0 h l a hs hl hi l [] 0 rfl rfl,sb];by_cases hst:Z3u h.f1 a l
 ·rw[if_pos hst,if_pos hst]
 ·rw[if_neg hst,if_neg hst]
abbrev Zc2 (s a:Int) (i:Int):Bool:=decide (a<i*stp s)
abbrev Z5f (s a:Int) (l:List Z0):List Z0:=l.filter (fun b=>Zc2 s a b.f0)
abbrev Z62 (s a:Int) (l:List Z0):List Z0:=l.filter (fun b => !Zc2 s a b.f0)
theorem keep_l0 (l:List Z0) (c0 s c2 c4 c5:Int) (c6 c7:List Z0) (a:Int) (hs:Z19 s) (hl:l.length<1000000) (hi:∀ b∈l,InS s b.f0) (hU:∀ b∈l,0≤b.f1):∀ (suf pre:List Z0) (z:Int) (o:List Z0) (i:Int),l=pre++suf→i=(pre.length:Int)→0≤z→z+cnt suf<18446744073709551616→o.length≤pre.length →
  Z0d.l0 l c0 s c2 c4 c5 c6 c7 a z o i=some (o++Z5f s a suf,z+cnt (Z62 s a suf)):=by
 intro suf
 induction suf with
 | nil =>
  intro pre z o i h1 hi0 _ _ _;subst h1;rw[Z0d.l0,if_neg (by simp[hi0])];simp[cnt]
 | cons x suf ih =>
  intro pre z o i h1 hi0 h0 hz ho;have hx:=hi x (by rw[h1];simp);have hx1:=hU x (by rw[h1];simp);have hn:0≤cnt suf:=Z0a (fun b hb=>hU b (by rw[h1];simp[hb]));have hlen:(l.length:Int)=pre.length+(suf.length+1):=by rw[h1];simp
  rw[Z51] at hz;rw[Z0d.l0,if_pos (by simp;omega),Z0t h1 hi0,sb,Zam hs hx,sb,Zh (by omega) (by omega),Z6j (a:=z) (b:=x.f1) ⟨h0,by omega⟩ ⟨hx1,by omega⟩];by_cases hc:a<x.f0*stp s
  ·rw[if_pos (by simpa using hc),chkB (by simp;omega),sb]
   simp only[];rw[ih (pre++[x]) z (o++[x]) (i+1) (by simp[h1]) (by simp;omega) h0 (by omega) (by simp;omega)];simp[hc]
  ·rw[if_neg (by simpa using hc),if_pos (by omega),sb,sb]
   simp only[];rw[ih (pre++[x]) (z+x.f1) o (i+1) (by simp[h1]) (by simp;omega) (by omega) (by omega) (by simp;omega)];rw[show Z5f s a (x::suf)=Z5f s a suf from List.filter_cons_of_neg (by simpa using hc),show Z62 s a (x::suf)=x::Z62 s a suf from List.filter_cons_of_pos (by simpa using hc),Z51,Int.add_assoc]
theorem keep_eq (l:List Z0) (c0 s c2 z c4 c5:Int) (c6 c7:List Z0) (a:Int) (hs:Z19 s) (hl:l.length<1000000) (hi:∀ b∈l,InS s b.f0) (hU:∀ b∈l,0≤b.f1) (h0:0≤z) (hz:z+cnt l<18446744073709551616) :
  Z0d.f l c0 s c2 z c4 c5 c6 c7 a=some (Z5f s a l,z+cnt (Z62 s a l)):=by
 unfold Z0d.f;rw[keep_l0 l c0 s c2 c4 c5 c6 c7 a hs hl hi hU l [] z [] 0 rfl rfl h0 hz (Nat.le_refl _),sb];simp
noncomputable def zAt (s a:Int) (p n:List Z0):Int:=if Z3u s a p∨Z3u s a n then cg s a else a
theorem strad_lt {s a:Int} {l:List Z0} (h:Z3u s a l):a<cg s a:=by
 obtain⟨b,hb,h1,h2⟩:=h;rw[cg_eq h1 (by omega)];exact h2
theorem zAt_max (s a:Int) (p n:List Z0):(if(if Z3u s a n then cg s a else a)>(if Z3u s a p then cg s a else a) then(if Z3u s a n then cg s a else a) else(if Z3u s a p then cg s a else a))=zAt s a p n:=by
 unfold zAt;by_cases h1:Z3u s a p
 ·have:=strad_lt h1
  by_cases h2:Z3u s a n<;>simp[h1,h2];omega
 ·by_cases h2:Z3u   s a n
  ·have:=strad_lt h2
   simp[h1,h2];omega
  ·simp[h1,h2]
theorem zAt_le (s a:Int) (p n:List Z0):a≤zAt s a p n:=by
 unfold zAt;split
 ·rename_i h;rcases h with h | h<;>exact Int.le_of_lt (strad_lt h)
 ·exact Int.le_refl _
structure Cs (s:Int) (l:List Z0):Prop where
 len:l.length≤5000
 ins:∀ b∈l,InS s b.f0
 pos:∀ b∈l,0<b.f1
theorem Cs.nn {s:Int} {l:List Z0} (h:Cs s l):Nn l:=fun b hb=>Int.le_of_lt (h.pos b hb)
theorem kept_low {s a:Int} {p n l:List Z0} (hl:l=p∨l=n) {b:Z0} (hb:b∈l) (h:zAt s a p n<b.f0*stp s):zAt s a p n≤(b.f0-1)*stp s:=by
 have hp:=Z56 s;unfold zAt at *;by_cases hc:Z3u s a p∨Z3u s a n
 ·rw[if_pos hc] at *
  unfold cg at *;have h1:=Int.lt_of_mul_lt_mul_right h (Int.le_of_lt hp);exact Int.mul_le_mul_of_nonneg_right (by omega) (Int.le_of_lt hp)
 ·rw[if_neg hc] at *
  by_cases h2:(b.f0-1)*stp s<a
  ·rcases hl with rfl | rfl
   ·exact absurd (.inl ⟨b,hb,h2,h⟩) hc
   ·exact absurd (.inr ⟨b,hb,h2,h⟩) hc
  ·omega
theorem zAt_range {s a:Int} {p n:List Z0} (hp:∀ b∈p,InS s b.f0) (hn:∀ b∈n,InS s b.f0) (ha:a = -524288∨(-262144<a∧a≤262144)):zAt s a p n = -524288∨(-262144<zAt s a p n∧zAt s a p n≤262144):=by
 unfold zAt;split
 ·rename_i h
  rcases h with ⟨b,hb,h1,h2⟩ | ⟨b,hb,h1,h2⟩
  ·rw[cg_eq h1 (by omega)];exact .inr (hp b hb)
  ·rw[cg_eq h1 (by omega)];exact .inr (hn b hb)
 ·exact ha
structure Swal (h:Z1) (p n:List Z0) (a:Int) (r:Z1):Prop where
 valid:Z1b r
 fits:Fits r
 kind:r.f0=h.f0
 schema:r.f1=h.f1
 zeroAt:r.f2=zAt h.f1 a p n
 zero:r.f3=h.f3+cnt (Z62 h.f1 (zAt h.f1 a p n) p)+cnt (Z62 h.f1 (zAt h.f1 a p n) n)
 sum:r.f5=h.f5
 tpos:∀ i,tot r.f6 i=if Zc2 h.f1 (zAt h.f1 a p n) i=true then tot p i else 0
 tneg:∀ i,tot r.f7 i=if Zc2 h.f1 (zAt h.f1 a p n) i=true then tot n i else 0
 count:r.f4=cnt p+cnt n+h.f3
theorem Z9j (h:Z1) (p n:List Z0) (a:Int) (hk:h.f0=0∨h.f0=1) (hs:Z19 h.f1) (ha:a = -524288∨(-262144<a∧a≤262144)) (h3:0≤h.f3) (h5:I64 h.f5) (hp:Cs h.f1 p) (hn:Cs h.f1 n) (hpl:p.length≤512) (hnl:n.length≤512)
  (ht:cnt p+cnt n+h.f3<18446744073709551616):∃ r,Z3j.f h p n a=some (r,0)∧Swal h p n a r:=by
 have c1:=Z0a hp.nn;have c2:=Z0a hn.nn;have d1:cnt (Z5f h.f1 (zAt h.f1 a p n) p)+cnt (Z62 h.f1 (zAt h.f1 a p n) p)=cnt p:=Z70 p _;have d2:cnt (Z5f h.f1 (zAt h.f1 a p n) n)+cnt (Z62 h.f1 (zAt h.f1 a p n) n)=cnt n:=Z70 n _;have e1:=Z0a (l:=Z5f h.f1 (zAt h.f1 a p n) p) (fun b hb=>hp.nn b ((List.mem_filter.1 hb).1));have e2:=Z0a (l:=Z5f h.f1 (zAt h.f1 a p n) n) (fun b hb=>hn.nn b ((List.mem_filter.1 hb).1));have e3:=Z0a (l:=Z62 h.f1 (zAt h.f1 a p n) p) (fun b hb=>hp.nn b ((List.mem_filter.1 hb).1));have e4:=Z0a (l:=Z62 h.f1 (zAt h.f1 a p n) n) (fun b hb=>hn.nn b ((List.mem_filter.1 hb).1));have hb:∀ l,(l=p∨l=n)→Cs h.f1 l→Bs h.f1 (zAt h.f1 a p n) (Z5f h.f1 (zAt h.f1 a p n) l):=fun l hl hc =>
  ⟨Nat.le_trans (List.length_filter_le _ _) hc.len,fun b hb=>by
   obtain⟨h1,h2⟩:=List.mem_filter.1 hb;exact⟨hc.ins b h1,Int.le_of_lt (hc.pos b h1),kept_low hl h1 (by simpa using h2)⟩⟩
 obtain⟨r,g1,g2,g3,g4,g5,g6,g7,g8,g9,g10,g11⟩:=Z6v (⟨h.f0,h.f1,zAt h.f1 a p n,h.f3+cnt (Z62 h.f1 (zAt h.f1 a p n) p)+cnt (Z62 h.f1 (zAt h.f1 a p n) n),h.f4,h.f5,h.f6,h.f7⟩:Z1)
  (Z5f h.f1 (zAt h.f1 a p n) p) (Z5f h.f1 (zAt h.f1 a p n) n) hk hs (zAt_range hp.ins hn.ins ha) (by simp;omega) h5 (hb p (.inl rfl) hp) (hb n (.inr rfl) hn) (by simp only;omega) (fun o ho hto=>by
   rcases hto with hto | hto
   ·exact Nat.le_trans hto.2 (Nat.le_trans (List.length_filter_le _ _) hpl)
   ·exact Nat.le_trans hto.2 (Nat.le_trans (List.length_filter_le _ _) hnl))
 refine⟨r,?_,⟨g2,g3,g4,g5,g6,g7,g8,fun i => ?_,fun i => ?_,?_⟩⟩
 ·have l1:=hp.len
  have l2:=hn.len;unfold Z3j.f;rw[edge_eq h p a hs (by omega) hp.ins,edge_eq h n a hs (by omega) hn.ins,sb,sb,zAt_max];rw[keep_eq p _ h.f1 _ h.f3 _ _ _ _ _ hs (by omega) hp.ins hp.nn h3 (by omega),sb,keep_eq n _ h.f1 _ _ _ _ _ _ _ hs (by omega) hn.ins hn.nn (by simp only;omega) (by simp only;omega),sb,g1];rfl
 ·rw[g9];exact Z6r p _ i
 ·rw[g10];exact Z6r n _ i
 ·rw[g11];simp only;omega
def rat (f t:Int):Int:=2 ^ (f-t).toNat
theorem rat_pos (f t:Int):0<rat f t:=Int.pow_pos (by omega)
theorem stp_rat {f t:Int} (h1:t≤f) (h2:f≤8):stp t=stp f*rat f t:=by
 unfold stp rat;rw[← Int.pow_add];congr 1;omega
def upI (f t i:Int):Int:=-((-i) / rat f t)
theorem upI_spec (f t i:Int):(upI f t i-1)*rat f t<i∧i≤upI f t i*rat f t:=by
 have hp:=rat_pos f t;unfold upI;generalize rat f t=r at *;have e1:=Int.ediv_mul_le (-i) (show r≠0 by omega);have e2:=Int.lt_ediv_add_one_mul_self (-i) hp;generalize (-i) / r=q at *;rw[Int.add_mul] at e2;constructor
 ·rw[Int.sub_mul,Int.neg_mul];omega
 ·rw[Int.neg_mul];omega
theorem upI_in {f t i:Int} (hf:Z19 f) (ht:Z19 t) (h:t≤f) (hi:InS f i):InS t (upI f t i):=by
 obtain⟨h3,h4⟩:=upI_spec f t i;have hst:=stp_rat h hf.2;have hp:=Z56 f;have hd:=stp_dvd ht;have hr:=rat_pos f t;obtain⟨i1,i2⟩:=hi;constructor
 ·rw[hst,Int.mul_comm (stp f),← Int.mul_assoc]
  have:=Int.mul_le_mul_of_nonneg_right h4 (Int.le_of_lt hp);omega
 ·
  generalize hQ:262144 / stp t=Q at hd;have hi3:i*stp f≤Q*rat f t*stp f:=by rw[Int.mul_assoc,Int.mul_comm (rat f t),← hst,hd];exact i2
  have hi4:=Int.le_of_mul_le_mul_right hi3 hp;have:=Int.lt_of_mul_lt_mul_right (show(upI f t i-1)*rat f t<Q*rat f t by omega) (Int.le_of_lt hr);have:=Int.mul_le_mul_of_nonneg_right (show upI f t i≤Q by omega) (Int.le_of_lt (Z56 t));omega
theorem to_eq {f t i:Int} (hf:Z19 f) (ht:Z19 t) (h:t≤f) (hi:InS f i):Z66.f f t i=some (upI f t i,0):=by
 have hs:=Z3y hi;have h1:=hf.1;have h2:=hf.2;have h3:=ht.1;have h4:=ht.2;unfold Z66.f Z90.f;rw[Z6n hf,sb,if_neg (by simp),Z6n ht,sb,if_neg (by simp),sb,if_neg (by simp;omega),in_T hf,sb,if_neg (by simp[hi]),chkB (Zan _).1,sb];rw[Zh (n:=f-t) (by omega) (by omega),Z28 (by omega) (by omega),Zh (n:=0-i) (by omega) (by omega)];have e:min (f-t).toNat 64=(f-t).toNat:=by omega
 rw[e,Int.fdiv_eq_ediv_of_nonneg _ (Int.le_of_lt (Int.pow_pos (by omega)))];have:(0-i) / 2 ^ (f-t).toNat = -upI f t i:=by unfold upI rat;rw[Int.zero_sub];omega
 rw[this];have hj:=Z3y (upI_in hf ht h hi);rw[Zh (by omega) (by omega)];congr 2;omega
def Z5u (f t:Int) (l:List Z0):List Z0:=l.map (fun b=>⟨upI f t b.f0,b.f1⟩)
theorem Z69 (f t:Int) (l:List Z0):(Z5u f t l).length=l.length:=by simp[Z5u]
theorem Z58 (f t:Int) (l:List Z0):cnt (Z5u f t l)=cnt l:=by simp[cnt,Z5u,Function.comp_def]
theorem down_l0 (l:List Z0) (f t:Int) (hf:Z19 f) (ht:Z19 t) (h:t≤f) (hl:l.length<1000000) (hi:∀ b∈l,InS f b.f0):∀ (suf pre o:List Z0) (i:Int),l=pre++suf→i=(pre.length:Int)→o.length=pre.length →
  Z2m.l0 l f t o i=some (o++Z5u f t suf):=by
 intro suf
 induction suf with
 | nil =>
  intro pre o i h1 hi0 _;subst h1;rw[Z2m.l0,if_neg (by simp[hi0])];simp[Z5u]
 | cons x suf ih =>
  intro pre o i h1 hi0 ho;have hx:=hi x (by rw[h1];simp);have hlen:(l.length:Int)=pre.length+(suf.length+1):=by rw[h1];simp
  rw[Z2m.l0,if_pos (by simp;omega),Z0t h1 hi0,sb,to_eq hf ht h hx,sb,chkB (by simp;omega),Zh (by omega) (by omega)];rw[ih (pre++[x]) _ (i+1) (by simp[h1]) (by simp;omega) (by simp;omega)];simp[Z5u]
theorem down_eq (l:List Z0) (f t:Int) (hf:Z19 f) (ht:Z19 t) (h:t≤f) (hl:l.length<1000000) (hi:∀ b∈l,InS f b.f0):Z2m.f l f t=some (Z5u f t l):=by
 unfold Z2m.f;rw[down_l0 l f t hf ht h hl hi l [] [] 0 rfl rfl rfl];simp
def h0:Z1:=⟨0,0,0,0,0,0,[],[]⟩
theorem Z4w {s z:Int} {l:List Z0} (h:Side s z l):Cs s l:=⟨by have:=h.len;omega,fun b hb=>(h.ok b hb).ins,fun b hb=>(h.ok b hb).pos⟩
theorem Zbr {f t:Int} {l:List Z0} (hf:Z19 f) (ht:Z19 t) (h:t≤f) (hc:Cs f l):Cs t (Z5u f t l) :=
 ⟨by rw[Z69];exact hc.len,fun b hb=>by
  obtain⟨x,hx,rfl⟩:=List.mem_map.1 hb;exact upI_in hf ht h (hc.ins x hx),fun b hb=>by
  obtain⟨x,hx,rfl⟩:=List.mem_map.1 hb;exact hc.pos x hx⟩
structure Cut (a:Z1) (s z:Int) (r:Z1):Prop where
 valid:Z1b r
 fits:Fits r
 kind:r.f0=a.f0
 schema:r.f1=s
 zeroAt:r.f2=z
 count:r.f4=a.f4
 sum:r.f5=a.f5
 tpos:∀ i,tot r.f6 i=if Zc2 s z i=true then tot (Z5u a.f1 s a.f6) i else 0
 tneg:∀ i,tot r.f7 i=if Zc2 s z i=true then tot (Z5u a.f1 s a.f7) i else 0
theorem hist_ext {a b:Z1} (e0:a.f0=b.f0) (e1:a.f1=b.f1) (e2:a.f2=b.f2) (e3:a.f3=b.f3) (e4:a.f4=b.f4) (e5:a.f5=b.f5) (e6:a.f6=b.f6) (e7:a.f7=b.f7):a=b:=by
 cases a;cases b;simp_all
theorem Down_eq (a:Z1) (s:Int) (hv:Z1b a) (hf:Fits a) (hs:Z19 s) (hle:s≤a.f1) :
  ∃ r,Z2u.f a s=some (r,0)∧Cut a s (zAt s a.f2 (Z5u a.f1 s a.f6) (Z5u a.f1 s a.f7)) r:=by
 have l1:=hv.pos.len;have l2:=hv.neg.len;have h1:=hv.count;have h2:=hv.total;obtain⟨r,e,h⟩:=Z9j (⟨a.f0,s,a.f2,a.f3,a.f4,a.f5,a.f6,a.f7⟩:Z1) (Z5u a.f1 s a.f6) (Z5u a.f1 s a.f7) a.f2 hv.kind hs hv.zero hf.zero.1 hf.sum (Zbr hv.schema hs hle (Z4w hv.pos)) (Zbr hv.schema hs hle (Z4w hv.neg))
  (by rw[Z69];exact l1) (by rw[Z69];exact l2) (by rw[Z58,Z58];exact h2)
 refine⟨r,?_,⟨h.valid,h.fits,h.kind,h.schema,h.zeroAt,by rw[h.count,Z58,Z58];exact h1.symm,h.sum,h.tpos,h.tneg⟩⟩;unfold Z2u.f;rw[Z6n hs,sb,if_neg (by simp),sb,if_neg (by simp;omega),down_eq a.f6 a.f1 s hv.schema hs hle (by omega) (Z4w hv.pos).ins,down_eq a.f7 a.f1 s hv.schema hs hle (by omega) (Z4w hv.neg).ins,sb,sb,e];rfl
theorem Down_bad (a:Z1) (s:Int) (h:¬ (Z19 s∧s≤a.f1)):Z2u.f a s=some (h0,20):=by
 unfold Z2u.f;by_cases hs:Z19 s
 ·rw[Z6n hs,sb,if_neg (by simp),sb,if_pos (by simp;have:¬ s≤a.f1:=fun q=>h ⟨hs,q⟩;omega)];rfl
 ·rw[right_F hs,sb,if_pos (by simp),sb,if_pos rfl];rfl
theorem Z7f (a:Z1) (h1:a.f6.length<1000000000) (h2:a.f7.length<1000000000):Z2h.f a=some a:=by
 unfold Z2h.f;rw[Z9v _ h1,Z9v _ h2];rfl
theorem Z5l (a:Z1) (z:Int) (hv:Z1b a) (hf:Fits a) (hz : -262144<z∧z≤262144) (hlt:a.f2<z) :
  ∃ r,Z1l.f a z=some (r,0)∧Swal a a.f6 a.f7 z r:=by
 obtain⟨r,e,h⟩:=Z9j a a.f6 a.f7 z hv.kind hv.schema (.inr hz) hf.zero.1 hf.sum (Z4w hv.pos) (Z4w hv.neg) hv.pos.len hv.neg.len hv.total;refine⟨r,?_,h⟩;unfold Z1l.f;rw[if_neg (by simp;omega),if_neg (by simp;omega),if_neg (by simp;omega),sb,if_neg (by simp;omega),e];rfl
theorem Z4v (a:Z1) (hv:Z1b a):Z1l.f a a.f2=some (a,0):=by
 have l1:=hv.pos.len;have l2:=hv.neg.len;unfold Z1l.f;rw[if_neg (by simp),if_pos (by simp),Z7f a (by omega) (by omega)];rfl
theorem Zc5 (a:Z1) (z:Int) (h:z<a.f2∨(z≠a.f2∧¬ (-262144<z∧z≤262144))):Z1l.f a z=some (h0,31):=by
 unfold Z1l.f;by_cases h1:z<a.f2
 ·rw[if_pos (by simpa using h1)];rfl
 ·rw[if_neg (by simpa using h1)]
  have h2:=h.resolve_left h1;rw[if_neg (by simpa using h2.1)];have:((if(decide (z≤(-262144)))=true then(some true) else(some (decide (z>(262144:Int))))):Option (Bool))=some true:=by
   by_cases h3:z ≤ -262144
   ·rw[if_pos (by simpa using h3)]
   ·rw[if_neg (by simpa using h3)];simp;omega
  rw[this,sb,if_pos rfl];rfl
theorem Cut.widen {a r r':Z1} {s z z':Int} (h:Cut a s z r) (hz:z≤z') (hw:Swal r r.f6 r.f7 z' r'):Cut a s (zAt s z' r.f6 r.f7) r':=by
 have hle:=zAt_le s z' r.f6 r.f7;have hc:=h.valid.count;have key:∀ i (u v:Int),u=(if Zc2 s z i=true then v else 0)→(if Zc2 s (zAt s z' r.f6 r.f7) i=true then u else 0)=if Zc2 s (zAt s z' r.f6 r.f7) i=true then v else 0:=by
  intro i u v hu;by_cases h1:zAt s z' r.f6 r.f7<i*stp s
  ·simp only[decide_eq_true_eq]
   rw[if_pos h1,if_pos h1,hu];simp only[decide_eq_true_eq];rw[if_pos (by omega)]
  ·simp only[decide_eq_true_eq];rw[if_neg h1,if_neg h1]
 have hs:=h.schema;refine⟨hw.valid,hw.fits,hw.kind.trans h.kind,hw.schema.trans hs,?_,?_,hw.sum.trans h.sum,fun i => ?_,fun i => ?_⟩
 ·rw[hw.zeroAt,hs]
 ·rw[hw.count,← h.count,hc]
 ·rw[hw.tpos i,hs];exact key i _ _ (h.tpos i)
 ·rw[hw.tneg i,hs];exact key i _ _ (h.tneg i)
theorem Z77 {s a:Int} {l:List Z0}:¬ Z3u s (cg s a) l:=by
 rintro⟨b,hb,h1,h2⟩;have hp:=Int.le_of_lt (Z56 s);unfold cg at *;have:=Int.lt_of_mul_lt_mul_right h1 hp;have:=Int.lt_of_mul_lt_mul_right h2 hp;omega
theorem zAt_no {s a:Int} {p n:List Z0} (h1:¬ Z3u s a p) (h2:¬ Z3u s a n):zAt s a p n=a:=by
 unfold zAt;rw[if_neg (by rintro(h | h)<;>contradiction)]
theorem zAt_or (s a:Int) (p n:List Z0):zAt s a p n=a∧¬ Z3u s a p∧¬ Z3u s a n∨zAt s a p n=cg s a:=by
 unfold zAt;by_cases h:Z3u s a p∨Z3u s a n
 ·exact .inr (if_pos h)
 ·exact .inl ⟨if_neg h,fun q=>h (.inl q),fun q=>h (.inr q)⟩
noncomputable def upto (k:Z8→Int) (y:Int) (q:Z8):Int:=if k q≤y then 1 else 0
structure Dn (h:Z1) (s:Int) (d:Z1):Prop where
 valid:Z1b d
 fits:Fits d
 schema:d.f1=s
 zeroAt:d.f2 = -524288
 count:d.f4=h.f4
 zero:d.f3=h.f3
 tpos:∀ i,tot d.f6 i=tot (Z5u h.f1 s h.f6) i
 tneg:∀ i,tot d.f7 i=tot (Z5u h.f1 s h.f7) i
def Z6b (N of:Int):Int:=if N % of=0 then N / of else N / of+1
theorem ceilD_le {N of k:Int} (h:0<of):Z6b N of≤k↔N≤k*of:=by
 have e:=Int.mul_ediv_add_emod N of;have m0:=Int.emod_nonneg N (show of≠0 by omega);have m1:=Int.emod_lt_of_pos N h;have key:∀ j:Int,j*of=of*j:=fun j=>Int.mul_comm _ _
 rw[key];unfold Z6b;split
 ·rename_i hz
  constructor
  ·intro hk
   have:=Int.mul_le_mul_of_nonneg_left hk (Int.le_of_lt h);omega
  ·intro hk
   exact Int.le_of_mul_le_mul_left (by omega:of*(N / of)≤of*k) h
 ·rename_i hz
  constructor
  ·intro hk
   have:=Int.mul_le_mul_of_nonneg_left hk (Int.le_of_lt h);rw[Int.mul_add,Int.mul_one] at this;omega
  ·intro hk
   have:N / of<k:=Int.lt_of_mul_lt_mul_left (a:=of) (by omega) (Int.le_of_lt h);omega
theorem ceilD_nonneg {N of:Int} (h:0<of) (hN:0≤N):0≤Z6b N of:=by
 have:0≤N / of:=Int.ediv_nonneg hN (by omega);unfold Z6b;split<;>omega
theorem ceil_eq {N of:Int} (h:0<of) (h2:of<18446744073709551616) (hN:0≤N) (hb:N / 18446744073709551616<of) (hc:Z6b N of<18446744073709551616):Z45.f ⟨N / 18446744073709551616,N % 18446744073709551616⟩ of=some (Z6b N of,0):=by
 unfold Z45.f;have q0:0≤N / of:=Int.ediv_nonneg hN (by omega);have eN:N / 18446744073709551616*18446744073709551616+N % 18446744073709551616=N:=by omega
 rw[if_neg (by simp;omega),sb,if_neg (by simp;omega),div64 h h2 (show 0≤N / 18446744073709551616 by omega) hb ⟨show 0≤N % 18446744073709551616 by omega,show N % 18446744073709551616<18446744073709551616 by omega⟩,sb]
 try dsimp only
 rw[eN];unfold Z6b at hc ⊢;by_cases hz:N % of=0
 ·rw[if_pos (by simpa using hz),if_pos hz]
 ·rw[if_neg (by simpa using hz),if_neg hz]
  rw[if_neg hz] at hc;rw[Z6j ⟨q0,by omega⟩ ⟨by decide,by decide⟩,if_pos hc,sb]
def mx1 (n:Int):Int:=if(1:Int)>n then 1 else n
structure Part (h:Z1) (part of:Int):Prop where
 ok:Z2i.f h part of=Z39.f h (mx1 (Z6b (part*h.f4) of))
 lo:1≤mx1 (Z6b (part*h.f4) of)
 hi:mx1 (Z6b (part*h.f4) of)≤h.f4
theorem Zcd {h:Z1} (v:Z1b h) (f:Fits h) {part of:Int} (hp:U64 part) (ho:U64 of) (h0:0<of) (hle:part≤of) (hc:0<h.f4):Part h part of:=by
 have f4:=f.count;have f42:=f4.2;have hp0:=hp.1;have ho2:=ho.2;have hN:0≤part*h.f4:=Int.mul_nonneg hp0 (by omega);have hN2:part*h.f4≤h.f4*of:=by rw[Int.mul_comm];exact Int.mul_le_mul_of_nonneg_left hle (by omega)
 have hcl:Z6b (part*h.f4) of≤h.f4:=(ceilD_le h0).2 hN2;have hc0:=ceilD_nonneg h0 hN;have hb:part*h.f4 / 18446744073709551616<of:=by
  refine Int.ediv_lt_of_lt_mul (by decide) ?_;have:h.f4*of<18446744073709551616*of:=Int.mul_lt_mul_of_pos_right f42 h0;rw[Int.mul_comm of];omega
 refine⟨?_,by unfold mx1;split<;>omega,by unfold mx1;split<;>omega⟩;unfold Z2i.f;rw[if_neg (by simp;omega),sb,if_neg (by simp;omega),if_neg (by simp;omega),num_mul hp f4,sb,ceil_eq h0 ho2 hN hb (by omega),sb]
 try dsimp only
 rw[if_neg (by simp)];show(Z39.f h (mx1 (Z6b (part*h.f4) of))>>=fun t1387=>some (t1387.1,t1387.2))=_;cases Z39.f h (mx1 (Z6b (part*h.f4) of)) with
 | none=>rfl
 | some x=>rfl
theorem quant_ok {h:Z1} (v:Z1b h) (f:Fits h) {part of:Int} (hp:U64 part) (ho:U64 of) (h0:0<of) (hle:part≤of) (hc:0<h.f4) :
  ∃ c,pick (cells h) (mx1 (Z6b (part*h.f4) of))=some c∧c∈cells h∧Z2i.f h part of=some (c.f0,0):=by
 have P:=Zcd v f hp ho h0 hle hc;have f42:=f.count.2;have P1:=P.lo;have P2:=P.hi;rcases at_cases h v f (mx1 (Z6b (part*h.f4) of)) ⟨by omega,by omega⟩ with ⟨_,_,_,hh⟩ | ⟨_,_,c,pc,mc,ac⟩
 ·exact absurd ⟨P1,P2⟩ hh
 ·exact⟨c,pc,mc,P.ok.trans ac⟩
theorem ref_quant_l0 {h:Z1} (v:Z1b h) (f:Fits h) {part of:Int} (hp:U64 part) (ho:U64 of) (h0:0<of) (hle:part≤of) {c:Zt}:∀ (suf pre:List Zt) (i:Int),cells h=pre++suf→i=(pre.length:Int)→csum pre<mx1 (Z6b (part*h.f4) of)→pick suf (mx1 (Z6b (part*h.f4) of)-csum pre)=some c →
  Z1c.l0 of (part*h.f4 / 18446744073709551616,part*h.f4 % 18446744073709551616) ((cells h).map rc) (csum pre) i=some (.inl (rc c,0)):=by
 have hl:=Z96 v;have hs:=Z95 v f;have fc:=f.count;have fc2:=fc.2;have hN:0≤part*h.f4:=Int.mul_nonneg hp.1 fc.1;intro suf
 induction suf with
 | nil=>intro pre i h1 hi hlt hpk;simp[pick] at hpk
 | cons x suf ih =>
  intro pre i h1 hi hlt hpk;have hlen:((cells h).length:Int)=pre.length+(suf.length+1):=by rw[h1];simp
  have hx:=Z50 v x (by rw[h1];simp);have hpre:=Z7d (l:=pre) (fun c hc=>Z50 v c (by rw[h1];simp[hc]));have hsuf:=Z7d (l:=suf) (fun c hc=>Z50 v c (by rw[h1];simp[hc]));have hsum:csum (cells h)=csum pre+(x.f1+csum suf):=by rw[h1,Z5k,Z6z]
  have h2:(cells h).map rc=pre.map rc++rc x::suf.map rc:=by rw[h1];simp
  have e:u64.wrap (csum pre+(rc x).f3)=csum pre+x.f1:=Z28 (by show 0≤csum pre+x.f1;omega) (by show csum pre+x.f1<_;omega);rw[Z1c.l0,if_pos (by simp;omega),Z0t h2 (by simp[hi]),sb,e,ref_mul ho ⟨by omega,by omega⟩,sb]
  try dsimp only
  have hN1:0≤of*(csum pre+x.f1):=Int.mul_nonneg ho.1 (by omega);rw[ref_less _ _ _ _ ⟨by omega,by omega⟩ ⟨by omega,by omega⟩,sb];have e3:of*(csum pre+x.f1) / 18446744073709551616*18446744073709551616+of*(csum pre+x.f1) % 18446744073709551616=of*(csum pre+x.f1):=by omega
  have e4:part*h.f4 / 18446744073709551616*18446744073709551616+part*h.f4 % 18446744073709551616=part*h.f4:=by omega
  rw[e3,e4];have C:=ceilD_le (N:=part*h.f4) (of:=of) (k:=csum pre+x.f1) h0;rw[Int.mul_comm (csum pre+x.f1)] at C;unfold pick at hpk;by_cases q:mx1 (Z6b (part*h.f4) of)-csum pre≤x.f1
  ·rw[if_pos q] at hpk
   obtain rfl:=Option.some.inj hpk;have:Z6b (part*h.f4) of≤csum pre+x.f1:=by unfold mx1 at q;split at q<;>omega
   have:=C.1 this;rw[if_pos (by simp;omega)]
  ·rw[if_neg q] at hpk
   have:¬ Z6b (part*h.f4) of≤csum pre+x.f1:=by unfold mx1 at q;split at q<;>omega
   have:=fun t=>this (C.2 t);rw[if_neg (by simp;omega),Zh (by omega) (by omega)];have e5:csum pre+x.f1=csum (pre++[x]):=by rw[Z5k,Z6z];simp[csum]
   rw[e5];have e6:mx1 (Z6b (part*h.f4) of)-csum pre-x.f1=mx1 (Z6b (part*h.f4) of)-csum (pre++[x]):=by omega
   rw[e6] at hpk;exact ih (pre++[x]) _ (by simp[h1]) (by simp;omega) (by omega) hpk
theorem ref_quant {h:Z1} (v:Z1b h) (f:Fits h) {part of:Int} (hp:U64 part) (ho:U64 of) (h0:0<of) (hle:part≤of) (hc:0<h.f4) {c:Zt} (pc:pick (cells h) (mx1 (Z6b (part*h.f4) of))=some c) :
  Z1c.f h part of=some (rc c,0):=by
 have P:=Zcd v f hp ho h0 hle hc;have P1:=P.lo;have lp:=v.pos.len;have ln:=v.neg.len;unfold Z1c.f;rw[if_neg (by simp;omega),sb,if_neg (by simp;omega),if_neg (by simp;omega),ref_mul hp f.count,sb,Za4 h (by omega) (by omega),sb];rw[show Z1c.l0 of (part*h.f4 / 18446744073709551616,part*h.f4 % 18446744073709551616) ((cells h).map rc) 0 0=_ from ref_quant_l0 v f hp ho h0 hle (cells h) [] 0 rfl rfl (by simp[csum];omega) (by simpa[csum] using pc),sb]
theorem together_l0 (l:List Z0) (k:Int) (hl:l.length<1000000):∀ (suf pre:List Z0) (x:List Int) (i:Int),l=pre++suf→i=(pre.length:Int)→x.length≤pre.length →
  Z1t.l0 l k x i=some (x++(suf.filter (fun b=>decide (b.f0=k))).map (·.f1)):=by
 intro suf
 induction suf with
 | nil=>intro pre x i h1 hi _;subst h1;rw[Z1t.l0,if_neg (by simp[hi])];simp
 | cons b suf ih =>
  intro pre x i h1 hi hx;have hlen:(l.length:Int)=pre.length+(suf.length+1):=by rw[h1];simp
  rw[Z1t.l0,if_pos (by simp;omega),Z0t h1 hi,sb,Zh (by omega) (by omega)];by_cases h:b.f0=k
  ·rw[if_pos (by simpa using h),chkB (by simp;omega),sb,ih (pre++[b]) _ (i+1) (by simp[h1]) (by simp;omega) (by simp;omega)]
   simp[h]
  ·rw[if_neg (by simpa using h),sb,ih (pre++[b]) _ (i+1) (by simp[h1]) (by simp;omega) (by simp;omega)]
   simp[h]
theorem tot_sum (l:List Z0) (k:Int):((l.filter (fun b=>decide (b.f0=k))).map (·.f1)).sum=tot l k:=by
 induction l with
 | nil=>rfl
 | cons b l ih =>
  by_cases h:b.f0=k
  ·rw[List.filter_cons_of_pos (by simpa using h),List.map_cons,List.sum_cons,ih,tot,if_pos h]
  ·rw[List.filter_cons_of_neg (by simpa using h),ih,tot,if_neg h];omega
theorem together_eq (l:List Z0) (k:Int) (hl:l.length<1000000) (hn:Nn l) (ht:cnt l<18446744073709551616):Z1t.f l k=some (tot l k,0):=by
 unfold Z1t.f;have h1:=Z9h hn k;rw[together_l0 l k hl l [] [] 0 rfl rfl (Nat.le_refl _),sb,List.nil_append,ref_add _ (by
  rw[List.length_map];have:=List.length_filter_le (fun b:Z0=>decide (b.f0=k)) l;omega) (by
  intro x hx;obtain⟨b,hb,rfl⟩:=List.mem_map.1 hx;have hb:=(List.mem_filter.1 hb).1;exact⟨hn b hb,by have:=le_cnt hn hb;omega⟩),sb,tot_sum,if_pos (by omega)]
def Cand (hv:Bool) (last:Int) (b:Z0):Prop:=hv=false∨last<b.f0
structure Least (hv:Bool) (last:Int) (l:List Z0) (fd:Bool) (nx:Int):Prop where
 none:fd=false→∀ b∈l,¬ Cand hv last b
 some:fd=true→(∃ b∈l,Cand hv last b∧b.f0=nx)∧∀ b∈l,Cand hv last b→nx≤b.f0
theorem tidy_l1 (l o:List Z0) (hv:Bool) (last:Int) (hl:l.length<1000000):∀ (suf pre:List Z0) (fd:Bool) (nx i:Int),l=pre++suf→i=(pre.length:Int)→Least hv last pre fd nx →
  ∃ fd' nx',Z1e.l1 l o hv last fd nx i=some (fd',nx')∧Least hv last l fd' nx':=by
 intro suf
 induction suf with
 | nil=>intro pre fd nx i h1 hi hL;rw[List.append_nil] at h1;subst h1;rw[Z1e.l1,if_neg (by simp[hi])];exact⟨_,_,rfl,hL⟩
 | cons b suf ih =>
  intro pre fd nx i h1 hi hL;have hlen:(l.length:Int)=pre.length+(suf.length+1):=by rw[h1];simp
  have e1:l=(pre++[b])++suf:=by simp[h1]
  have e2:i+1=((pre++[b]).length:Int):=by simp;omega
  have hc:((if(!hv)=true then(if(!fd)=true then(some true) else((at? l i)>>=fun b1857=>some (decide (b1857.f0<nx)))) else((at? l i)>>=fun b1860=>if(decide (b1860.f0>last))=true then(if(!fd)=true then(some true) else(some (decide (b1860.f0<nx)))) else(some false))):Option (Bool))=some (decide (Cand hv last b∧(fd=false∨b.f0<nx))):=by
   rw[Z0t h1 hi,sb,sb];unfold Cand;cases hv<;>cases fd<;>simp
   ·by_cases h:last<b.f0<;>simp[h]
   ·by_cases h:last<b.f0<;>simp[h]
  rw[Z1e.l1,if_pos (by simp;omega),hc,sb,Zh (by omega) (by omega)];by_cases h:Cand hv last b∧(fd=false∨b.f0<nx)
  ·rw[if_pos (by simpa using h),Z0t    h1 hi,sb,sb]
   simp only[];refine ih (pre++[b]) true b.f0 (i+1) e1 e2 ⟨fun h=>(by cases h),fun _=>⟨⟨b,by simp,h.1,rfl⟩,fun c hc hcc => ?_⟩⟩;rcases List.mem_append.1 hc with hc | hc
   ·rcases h.2 with h2 | h2
    ·exact absurd hcc (hL.none h2 c hc)
    ·cases hfd:fd with
     | false=>exact absurd hcc (hL.none hfd c hc)
     | true=>have:=(hL.some hfd).2 c hc hcc;omega
   ·simp at hc;subst hc;exact Int.le_refl _
  ·rw[if_neg (by simpa using h),sb]
   simp only[];refine ih (pre++[b]) fd nx (i+1) e1 e2 ⟨fun hf c hc hcc => ?_,fun hf=>⟨?_,fun c hc hcc => ?_⟩⟩
   ·rcases List.mem_append.1 hc with hc | hc
    ·exact hL.none hf c hc hcc
    ·simp at hc;subst hc;exact h ⟨hcc,.inl hf⟩
   ·obtain⟨c,hc,q⟩:=(hL.some hf).1;exact⟨c,by simp[hc],q⟩
   ·rcases List.mem_append.1 hc with hc | hc
    ·exact(hL.some hf).2 c hc hcc
    ·simp at hc;subst hc
     by_cases h3:nx≤c.f0
     ·exact h3
     ·exact absurd ⟨hcc,.inr (by omega)⟩ h
theorem tidy_l0_ref (l:List Z0) (hl:l.length<1000000) (hp:∀ b∈l,0<b.f1) (ht:cnt l<18446744073709551616):∀ (n:Nat) (o:List Z0) (hv:Bool) (last:Int),(l.filter (fun b=>decide (Cand hv last b))).length≤n→Z3v o→(∀ b∈o,¬ Cand hv last b)→(∀ i,tot o i=if hv=true∧i≤last then tot l i else 0)→o.length+n≤l.length →
  ∃ o',Z1e.l0 l o hv last=some (o',0)∧Z3v o'∧(∀ i,tot o' i=tot l i)∧o'.length≤l.length:=by
 have hn:Nn l:=fun b hb=>Int.le_of_lt (hp b hb);intro n
 induction n with
 | zero =>
  intro o hv last hm hc ho hto hln;obtain⟨fd,nx,e,hL⟩:=tidy_l1 l o hv last hl l [] false 0 0 rfl rfl ⟨by simp,by simp⟩;have hfd:fd=false:=by
   cases hfd:fd with
   | false=>rfl
   | true =>
    obtain⟨b,hb,hbc,_⟩:=(hL.some hfd).1;have:b∈l.filter (fun b=>decide (Cand hv last b)):=List.mem_filter.2 ⟨hb,by simpa using hbc⟩;have:=List.length_pos_of_mem this;omega
  rw[Z1e.l0,e,sb];simp only[hfd];rw[if_pos (by rfl)];refine⟨o,rfl,hc,fun i => ?_,by omega⟩;rw[hto];by_cases h:hv=true∧i≤last
  ·rw[if_pos h]
  ·rw[if_neg h,tot_zero]
   rintro b hb rfl;apply hL.none hfd b hb;unfold Cand;cases hv with
   | false=>exact .inl rfl
   | true=>right;by_cases h2:last<b.f0;exact h2;exact absurd ⟨rfl,by omega⟩ h
 | succ n ih =>
  intro o hv last hm hc ho hto hln;obtain⟨fd,nx,e,hL⟩:=tidy_l1 l o hv last hl l [] false 0 0 rfl rfl ⟨by simp,by simp⟩;cases hfd:fd with
  | false =>
   rw[Z1e.l0,e,sb];simp only[hfd];rw[if_pos (by rfl)];refine⟨o,rfl,hc,fun i => ?_,by omega⟩;rw[hto];by_cases h:hv=true∧i≤last
   ·rw[if_pos h]
   ·rw[if_neg h,tot_zero]
    rintro b hb rfl;apply hL.none hfd b hb;unfold Cand;cases hv with
    | false=>exact .inl rfl
    | true=>right;by_cases h2:last<b.f0;exact h2;exact absurd ⟨rfl,by omega⟩ h
  | true =>
   obtain⟨⟨b,hb,hbc,hbn⟩,hmin⟩:=hL.some hfd;have hpos:0<tot l nx:=by have:=tot_mem hn hb;have:=hp b hb;rw[hbn] at *;omega
   rw[Z1e.l0,e,sb];simp only[hfd];rw[if_neg (by simp),together_eq l nx hl hn ht,sb,if_neg (by simp),if_pos (by simpa using hpos),chkB (by simp;omega),sb];have hlt:∀ c∈o,c.f0<nx:=fun c hc2=>by
    have:=ho c hc2;unfold Cand at this hbc;rcases hbc with h1 | h1
    ·exact absurd (.inl h1) this
    ·have:¬ last<c.f0:=fun h=>this (.inr h)
     omega
   refine ih (o++[⟨nx,tot l nx⟩]) true nx ?_ ?_ ?_ ?_ (by simp;omega)
   ·
    have hsub:(l.filter (fun b=>decide (Cand true nx b)))=(l.filter (fun b=>decide (Cand hv last b))).filter (fun b=>decide (nx<b.f0)):=by
     rw[List.filter_filter];apply List.filter_congr;intro c hc2;unfold Cand;by_cases h1:nx<c.f0
     ·have:hv=false∨last<c.f0:=by
       unfold Cand at hbc;rcases hbc with h2 | h2
       ·exact .inl h2
       ·exact .inr (by omega)
      simp[h1,this]
     ·simp[h1]
    rw[hsub];have hmem:b∈l.filter (fun b=>decide (Cand hv last b)):=List.mem_filter.2 ⟨hb,by simpa using hbc⟩;have:((l.filter (fun b=>decide (Cand hv last b))).filter (fun b=>decide (nx<b.f0))).length<(l.filter (fun b=>decide (Cand hv last b))).length:=by
     rw[List.length_filter_lt_length_iff_exists];exact⟨b,hmem,by simp;omega⟩
    omega
   ·exact⟨List.pairwise_append.2 ⟨hc.up,List.pairwise_singleton _ _,fun c hc2 d hd=>by simp at hd;subst hd;exact hlt c hc2⟩,fun c hc2=>by
     rcases List.mem_append.1 hc2 with h | h
     ·exact hc.pos c h
     ·simp at h;subst h;exact hpos⟩
   ·intro c hc2 hcc
    unfold Cand at hcc;rcases List.mem_append.1 hc2 with h | h
    ·have:=hlt c h;simp at hcc;omega
    ·simp at h;subst h;simp at hcc
   ·intro i
    rw[Z1x,Z9g,hto];simp only[true_and];by_cases h1:i=nx
    ·subst h1
     have:¬ (hv=true∧i≤last):=by
      rintro⟨h2,h3⟩;unfold Cand at hbc;rcases hbc with h | h
      ·rw[h2] at h;cases h
      ·omega
     rw[if_neg this,if_pos rfl,if_pos (Int.le_refl _)];omega
    ·rw[if_neg (show ¬ nx=i from fun h=>h1 h.symm)]
     by_cases h2:i≤nx
     ·rw[if_pos h2]
      by_cases h3:hv=true∧i≤last
      ·rw[if_pos h3];omega
      ·rw[if_neg h3,tot_zero]
       ·rfl
       ·rintro c hc2 rfl
        have:Cand hv last c:=by
         unfold Cand;cases hv with
         | false=>exact .inl rfl
         | true=>right;by_cases h4:last<c.f0;exact h4;exact absurd ⟨rfl,by omega⟩ h3
        have:=hmin c hc2 this;omega
     ·rw[if_neg h2,if_neg]
      ·rfl
      ·rintro⟨h3,h4⟩
       unfold Cand at hbc;rcases hbc with h | h
       ·rw[h3] at h;cases h
       ·omega
theorem tidy_ref (l:List Z0) (hl:l.length<1000000) (hp:∀ b∈l,0<b.f1) (ht:cnt l<18446744073709551616) :
  ∃ o,Z1e.f l=some (o,0)∧Z3v o∧(∀ i,tot o i=tot l i)∧o.length≤l.length:=by
 unfold Z1e.f;obtain⟨o,e,h⟩:=tidy_l0_ref l hl hp ht _ [] false 0 (List.length_filter_le _ _) ⟨List.Pairwise.nil,by simp⟩ (by simp) (by simp[tot]) (by simp);rw[e];exact⟨o,rfl,h⟩
theorem ref_of {s u k:Int} (hs:Z19 s) (hu : -262144<u∧u≤262144) (h1:(k-1)*stp s<u) (h2:u≤k*stp s):Z3c.f s u=some (k,true):=by
 have hp:=Z56 s;have hle:=stp_le hs;have hk : -262144≤k∧k≤262145:=by
  constructor
  ·by_cases h:k < -262144
   ·have:=Int.mul_le_mul_of_nonneg_right (show k ≤ -262145 by omega) (Int.le_of_lt hp)
    have:=Int.mul_le_mul_of_nonneg_left (show 1≤stp s by omega) (show(0:Int)≤262145 by omega);omega
   ·omega
  ·by_cases h:262145<k
   ·have:=Int.mul_le_mul_of_nonneg_right (show 262145≤k-1 by omega) (Int.le_of_lt hp)
    have:=Int.mul_le_mul_of_nonneg_left (show 1≤stp s by omega) (show(0:Int)≤262145 by omega);omega
   ·omega
 have htd:Int.tdiv u (stp s)=k∨Int.tdiv u (stp s)=k-1:=by
  by_cases h0:0≤u
  ·rw[Int.tdiv_eq_ediv_of_nonneg h0]
   have e1:=Int.ediv_mul_le u (show stp s≠0 by omega);have e2:=Int.lt_ediv_add_one_mul_self u hp;generalize u / stp s=q at *;have a1:=Int.lt_of_mul_lt_mul_right (show(k-1)*stp s<(q+1)*stp s by omega) (Int.le_of_lt hp);have a2:=Int.le_of_mul_le_mul_right (show q*stp s≤k*stp s by omega) hp;omega
  ·have e0:Int.tdiv u (stp s) = -((-u) / stp s):=by
    rw[← Int.tdiv_eq_ediv_of_nonneg (show 0 ≤ -u by omega),Int.neg_tdiv];omega
   rw[e0];have e1:=Int.ediv_mul_le (-u) (show stp s≠0 by omega);have e2:=Int.lt_ediv_add_one_mul_self (-u) hp;generalize (-u) / stp s=q at *;rw[Int.add_mul] at e2;rw[Int.sub_mul] at h1;have a1:=Int.le_of_mul_le_mul_right (show q*stp s≤(-(k-1))*stp s by rw[Int.neg_mul,Int.sub_mul];omega) hp;have a2:=Int.lt_of_mul_lt_mul_right (show(-k)*stp s<(q+1)*stp s by rw[Int.neg_mul,Int.add_mul];omega) (Int.le_of_lt hp);by_cases hq:q = -k
   ·omega
   ·have:q=1-k:=by omega
    subst this;rw[Int.sub_mul] at e1;omega
 have hU:∀ j:Int,j=k∨j=k-1→Z0c.f s j=some (j*stp s):=fun j hj=>Z4f hs (by omega)
 have hl1:Z3c.l1 s u k=some k:=by
  rw[Z3c.l1,Zh (by omega) (by omega),hU _ (.inr rfl),sb,if_neg (by simp;omega)]
 have hl0k:Z3c.l0 s u k=some k:=by
  rw[Z3c.l0,hU _ (.inl rfl),sb,if_neg (by simp;omega)]
 have hl0:Z3c.l0 s u (Int.tdiv u (stp s))=some k:=by
  rcases htd with h | h
  ·rw[h,hl0k]
  ·rw[h,Z3c.l0,hU _ (.inr rfl),sb,if_pos (by simp;omega),Zh (by omega) (by omega),show k-1+1=k by omega,hl0k]
 unfold Z3c.f;rw[Z57,sb,if_neg (by simp[hs]),if_neg (by simp;omega),sb,if_neg (by simp;omega),ref_step hs,sb,chkB (by omega),Zh (by rcases htd with h | h<;>omega) (by rcases htd with h | h<;>omega),hl0,sb,hl1,sb]
theorem ref_to {f t i:Int} (hf:Z19 f) (ht:Z19 t) (h:t≤f) (hi:InS f i):Z82.f f t i=some (upI f t i,0):=by
 have hsm:=Z3y hi;obtain⟨h3,h4⟩:=upI_spec f t i;have hst:=stp_rat h hf.2;have hp:=Z56 f;unfold Z82.f;rw[Z57,sb,if_neg (by simp[hf]),Z57,sb,if_neg (by simp[ht]),sb,if_neg (by simp;omega),ref_in hf (Zbm hi),sb,if_neg (by simp[hi]),Z4f hf (by omega),sb,
  ref_of ht hi (k:=upI f t i) (by
   rw[hst,Int.mul_comm (stp f),← Int.mul_assoc];exact Int.mul_lt_mul_of_pos_right h3 hp) (by
   rw[hst,Int.mul_comm (stp f),← Int.mul_assoc];exact Int.mul_le_mul_of_nonneg_right h4 (Int.le_of_lt hp)),sb]
theorem coarse_l0 (l:List Z0) (f t:Int) (hf:Z19 f) (ht:Z19 t) (h:t≤f) (hl:l.length<1000000) (hi:∀ b∈l,InS f b.f0):∀ (suf pre o:List Z0) (i:Int),l=pre++suf→i=(pre.length:Int)→o.length=pre.length →
  Z23.l0 l f t o i=some (o++Z5u f t suf):=by
 intro suf
 induction suf with
 | nil=>intro pre o i h1 hi0 _;subst h1;rw[Z23.l0,if_neg (by simp[hi0])];simp[Z5u]
 | cons x suf ih =>
  intro pre o i h1 hi0 ho;have hx:=hi x (by rw[h1];simp);have hlen:(l.length:Int)=pre.length+(suf.length+1):=by rw[h1];simp
  rw[Z23.l0,if_pos (by simp;omega),Z0t h1 hi0,sb,ref_to hf ht h hx,sb,chkB (by simp;omega),Zh (by omega) (by omega)];rw[ih (pre++[x]) _ (i+1) (by simp[h1]) (by simp;omega) (by simp;omega)];simp[Z5u]
theorem coarse_eq (l:List Z0) (f t:Int) (hf:Z19 f) (ht:Z19 t) (h:t≤f) (hc:Cs f l) (hct:cnt l<18446744073709551616) :
  ∃ o,Z23.f l f t=some o∧Z3v o∧(∀ i,tot o i=tot (Z5u f t l) i)∧o.length≤l.length:=by
 have hl:=hc.len;have hd:=Zbr hf ht h hc;obtain⟨o,e,h1,h2,h3⟩:=tidy_ref (Z5u f t l) (by rw[Z69];omega) hd.pos (by rw[Z58];exact hct);unfold Z23.f;rw[coarse_l0 l f t hf ht h (by omega) hc.ins l [] [] 0 rfl rfl rfl,sb,List.nil_append,e];exact⟨o,rfl,h1,h2,by rw[Z69] at h3;exact h3⟩
theorem within_l0 (s a:Int) (l:List Z0) (hs:Z19 s) (hl:l.length<1000000000) (hi:∀ b∈l,InS s b.f0):∀ (suf pre:List Z0) (i:Int),l=pre++suf→i=(pre.length:Int) →
  Z22.l0 s l a i=some (if Z3u s a suf then .inl (cg s a) else .inr ()):=by
 intro suf
 induction suf with
 | nil=>intro pre i h1 hi0;subst h1;rw[Z22.l0,if_neg (by simp[hi0]),if_neg (by simp[Z3u])]
 | cons x suf ih =>
  intro pre i h1 hi0;have hx:=hi x (by rw[h1];simp);have hsm:=Z3y hx;have hlen:(l.length:Int)=pre.length+(suf.length+1):=by rw[h1];simp
  rw[Z22.l0,if_pos (by simp;omega),Z0t h1 hi0,sb,sb,Zh (n:=x.f0-1) (by omega) (by omega),Z4f hs (i:=x.f0-1) (by omega),sb,Z4f hs (i:=x.f0) (by omega),sb,sb,ifand,sb];by_cases hc:(x.f0-1)*stp s<a∧a<x.f0*stp s
  ·rw[if_pos (by simpa using hc),if_pos ⟨x,by simp,hc⟩,cg_eq hc.1 (by omega)]
  ·rw[if_neg (by simpa using hc),Zh     (by omega) (by omega),ih (pre++[x]) (i+1) (by simp[h1]) (by simp;omega)]
   have:Z3u s a (x::suf)↔Z3u s a suf:=by
    constructor
    ·rintro⟨b,hb,h⟩
     rcases List.mem_cons.1 hb with rfl | hb
     ·exact absurd h hc
     ·exact⟨b,hb,h⟩
    ·rintro⟨b,hb,h⟩;exact⟨b,by simp[hb],h⟩
   by_cases hst:Z3u s a suf
   ·rw[if_pos hst,if_pos (this.2 hst)]
   ·rw[if_neg hst,if_neg (fun q=>hst (this.1 q))]
theorem within_eq (s a:Int) (l:List Z0) (hs:Z19 s) (hl:l.length<1000000000) (hi:∀ b∈l,InS s b.f0):Z22.f s l a=some (if Z3u s a l then cg s a else a):=by
 unfold Z22.f;rw[within_l0 s a l hs hl hi l [] 0 rfl rfl,sb];by_cases hst:Z3u s a l
 ·rw[if_pos hst,if_pos hst]
 ·rw[if_neg hst,if_neg hst]
theorem rsw_l0 (h:Z1) (a:Int) (hs:Z19 h.f1) (hl:h.f6.length<1000000) (hi:∀ b∈h.f6,InS h.f1 b.f0) (hU:∀ b∈h.f6,0≤b.f1):∀ (suf pre:List Z0) (z:Int) (o:List Z0) (i:Int),h.f6=pre++suf→i=(pre.length:Int)→0≤z→z+cnt suf<18446744073709551616→o.length≤pre.length →
  Z0o.l0 h a z o i=some (z+cnt (Z62 h.f1 a suf),o++Z5f h.f1 a suf):=by
 intro suf
 induction suf with
 | nil=>intro pre z o i h1 hi0 _ _ _;rw[Z0o.l0,if_neg (by rw[h1];simp[hi0])];simp[cnt]
 | cons x suf ih =>
  intro pre z o i h1 hi0 h0 hz ho;have hx:=hi x (by rw[h1];simp);have hsm:=Z3y hx;have hx1:=hU x (by rw[h1];simp);have hn:0≤cnt suf:=Z0a (fun b hb=>hU b (by rw[h1];simp[hb]));have hlen:(h.f6.length:Int)=pre.length+(suf.length+1):=by rw[h1];simp
  rw[Z51] at hz;rw[Z0o.l0,if_pos (by simp;omega),Z0t h1 hi0,sb,Z4f hs (by omega),sb,Zh (by omega) (by omega)];by_cases hc:a<x.f0*stp h.f1
  ·rw[if_neg (by simp;omega),chkB (by simp;omega),sb]
   simp only[];rw[ih (pre++[x]) z (o++[x]) (i+1) (by simp[h1]) (by simp;omega) h0 (by omega) (by simp;omega)];simp[hc]
  ·rw[if_pos (by simp;omega),Z28   (by omega) (by omega),sb]
   simp only[];rw[ih (pre++[x]) (z+x.f1) o (i+1) (by simp[h1]) (by simp;omega) (by omega) (by omega) (by simp;omega)];rw[show Z5f h.f1 a (x::suf)=Z5f h.f1 a suf from List.filter_cons_of_neg (by simpa using hc),show Z62 h.f1 a (x::suf)=x::Z62 h.f1 a suf from List.filter_cons_of_pos (by simpa using hc),Z51,Int.add_assoc]
theorem rsw_l1 (h:Z1) (a:Int) (q:List Z0) (hs:Z19 h.f1) (hl:h.f7.length<1000000) (hi:∀ b∈h.f7,InS h.f1 b.f0) (hU:∀ b∈h.f7,0≤b.f1):∀ (suf pre:List Z0) (z:Int) (o:List Z0) (i:Int),h.f7=pre++suf→i=(pre.length:Int)→0≤z→z+cnt suf<18446744073709551616→o.length≤pre.length →
  Z0o.l1 h a q z o i=some (z+cnt (Z62 h.f1 a suf),o++Z5f h.f1 a suf):=by
 intro suf
 induction suf with
 | nil=>intro pre z o i h1 hi0 _ _ _;rw[Z0o.l1,if_neg (by rw[h1];simp[hi0])];simp[cnt]
 | cons x suf ih =>
  intro pre z o i h1 hi0 h0 hz ho;have hx:=hi x (by rw[h1];simp);have hsm:=Z3y hx;have hx1:=hU x (by rw[h1];simp);have hn:0≤cnt suf:=Z0a (fun b hb=>hU b (by rw[h1];simp[hb]));have hlen:(h.f7.length:Int)=pre.length+(suf.length+1):=by rw[h1];simp
  rw[Z51] at hz;rw[Z0o.l1,if_pos (by simp;omega),Z0t h1 hi0,sb,Z4f hs (by omega),sb,Zh (by omega) (by omega)];by_cases hc:a<x.f0*stp h.f1
  ·rw[if_neg (by simp;omega),chkB (by simp;omega),sb]
   simp only[];rw[ih (pre++[x]) z (o++[x]) (i+1) (by simp[h1]) (by simp;omega) h0 (by omega) (by simp;omega)];simp[hc]
  ·rw[if_pos (by simp;omega),Z28   (by omega) (by omega),sb]
   simp only[];rw[ih (pre++[x]) (z+x.f1) o (i+1) (by simp[h1]) (by simp;omega) (by omega) (by omega) (by simp;omega)];rw[show Z5f h.f1 a (x::suf)=Z5f h.f1 a suf from List.filter_cons_of_neg (by simpa using hc),show Z62 h.f1 a (x::suf)=x::Z62 h.f1 a suf from List.filter_cons_of_pos (by simpa using hc),Z51,Int.add_assoc]
noncomputable def rsw (h:Z1) (a:Int):Z1:=⟨h.f0,h.f1,zAt h.f1 a h.f6 h.f7,h.f3+cnt (Z62 h.f1 (zAt h.f1 a h.f6 h.f7) h.f6)+cnt (Z62 h.f1 (zAt h.f1 a h.f6 h.f7) h.f7),h.f4,h.f5,Z5f h.f1 (zAt h.f1 a h.f6 h.f7) h.f6,Z5f h.f1 (zAt h.f1 a h.f6 h.f7) h.f7⟩
theorem rsw_eq (h:Z1) (a:Int) (hs:Z19 h.f1) (hp:Cs h.f1 h.f6) (hn:Cs h.f1 h.f7) (h3:0≤h.f3) (ht:cnt h.f6+cnt h.f7+h.f3<18446744073709551616):Z0o.f h a=some (rsw h a):=by
 have l1:=hp.len;have l2:=hn.len;have c1:=Z0a hp.nn;have c2:=Z0a hn.nn;have d1:cnt (Z5f h.f1 (zAt h.f1 a h.f6 h.f7) h.f6)+cnt (Z62 h.f1 (zAt h.f1 a h.f6 h.f7) h.f6)=cnt h.f6:=Z70 h.f6 _;have e1:=Z0a (l:=Z5f h.f1 (zAt h.f1 a h.f6 h.f7) h.f6) (fun b hb=>hp.nn b (List.mem_filter.1 hb).1);have e2:=Z0a (l:=Z62 h.f1 (zAt h.f1 a h.f6 h.f7) h.f6) (fun b hb=>hp.nn b (List.mem_filter.1 hb).1);have hmax:((if(decide ((if Z3u h.f1 a h.f7 then cg h.f1 a else a)>(if Z3u h.f1 a h.f6 then cg h.f1 a else a)))=true then(some (if Z3u h.f1 a h.f7 then cg h.f1 a else a)) else(some (if Z3u h.f1 a h.f6 then cg h.f1 a else a))):Option Int)=some (zAt h.f1 a h.f6 h.f7):=by
  rw[← zAt_max];by_cases h:(if Z3u h.f1 a h.f7 then cg h.f1 a else a)>(if Z3u h.f1 a h.f6 then cg h.f1 a else a)
  ·rw[if_pos (by simpa using h),if_pos h]
  ·rw[if_neg (by simpa using h),if_neg h]
 unfold Z0o.f;rw[within_eq h.f1 a h.f6 hs (by omega) hp.ins,within_eq h.f1 a h.f7 hs (by omega) hn.ins,sb,sb,hmax,sb,rsw_l0 h _ hs (by omega) hp.ins hp.nn h.f6 [] h.f3 [] 0 rfl rfl h3 (by omega) (Nat.le_refl _),sb];simp only[List.nil_append];rw[rsw_l1 h _ _ hs (by omega) hn.ins hn.nn h.f7 [] _ [] 0 rfl rfl (by omega) (by omega) (Nat.le_refl _),sb];simp only[List.nil_append];rfl
theorem Zap {s a:Int} {l l':List Z0} (hp:∀ b∈l,0<b.f1) (h:∀ i,tot l i=tot l' i) (hs:Z3u s a l):Z3u s a l':=by
 obtain⟨b,hb,h1⟩:=hs;by_cases hc:∃ c∈l',c.f0=b.f0
 ·obtain⟨c,hc,e⟩:=hc;exact⟨c,hc,e ▸ h1⟩
 ·have h2:=tot_mem (fun b hb=>Int.le_of_lt (hp b hb)) hb
  rw[h,tot_zero (fun c hc2 e=>hc ⟨c,hc2,e⟩)] at h2;have:=hp b hb;omega
theorem zAt_congr {s a:Int} {p n p' n':List Z0} (hp:∀ b∈p,0<b.f1) (hn:∀ b∈n,0<b.f1) (hp':∀ b∈p',0<b.f1) (hn':∀ b∈n',0<b.f1) (h1:∀ i,tot p i=tot p' i) (h2:∀ i,tot n i=tot n' i):zAt s a p n=zAt s a p' n':=by
 unfold zAt;have e1:Z3u s a p↔Z3u s a p':=⟨Zap hp h1,Zap hp' (fun i=>(h1 i).symm)⟩
 have e2:Z3u s a n↔Z3u s a n':=⟨Zap hn h2,Zap hn' (fun i=>(h2 i).symm)⟩
 by_cases h:Z3u s a p∨Z3u s a n
 ·rw[if_pos h,if_pos (by rw[← e1,← e2];exact h)]
 ·rw[if_neg h,if_neg (by rw[← e1,← e2];exact h)]
theorem swal_rsw {h g:Z1} {p n:List Z0} {a:Int} {r:Z1} (w:Swal h p n a r) (hp:∀ b∈p,0<b.f1) (hn:∀ b∈n,0<b.f1) (c6:Z3v g.f6) (c7:Z3v g.f7) (t6:∀ i,tot g.f6 i=tot p i) (t7:∀ i,tot g.f7 i=tot n i)
  (e0:g.f0=h.f0) (e1:g.f1=h.f1) (e3:g.f3=h.f3) (e4:g.f4=cnt p+cnt n+h.f3) (e5:g.f5=h.f5):rsw g a=r:=by
 have hz:zAt g.f1 a g.f6 g.f7=zAt h.f1 a p n:=by rw[e1];exact zAt_congr c6.pos c7.pos hp hn t6 t7
 have k6:Z3v (Z5f h.f1 (zAt h.f1 a p n) g.f6):=⟨c6.up.filter _,fun b hb=>c6.pos b (List.mem_filter.1 hb).1⟩
 have k7:Z3v (Z5f h.f1 (zAt h.f1 a p n) g.f7):=⟨c7.up.filter _,fun b hb=>c7.pos b (List.mem_filter.1 hb).1⟩
 have q6:Z5f h.f1 (zAt h.f1 a p n) g.f6=r.f6:=Z2r k6 w.valid.pos.canon (fun i=>by rw[w.tpos,Z6r g.f6 (Zc2 h.f1 (zAt h.f1 a p n)) i,t6]);have q7:Z5f h.f1 (zAt h.f1 a p n) g.f7=r.f7:=Z2r k7 w.valid.neg.canon (fun i=>by rw[w.tneg,Z6r g.f7 (Zc2 h.f1 (zAt h.f1 a p n)) i,t7]);have d6:cnt (Z5f h.f1 (zAt h.f1 a p n) g.f6)+cnt (Z62 h.f1 (zAt h.f1 a p n) g.f6)=cnt g.f6:=Z70 g.f6 _;have d7:cnt (Z5f h.f1 (zAt h.f1 a p n) g.f7)+cnt (Z62 h.f1 (zAt h.f1 a p n) g.f7)=cnt g.f7:=Z70 g.f7 _;have m6:=Z4n t6;have m7:=Z4n t7;have hc:=w.valid.count;have hcc:=w.count;rw[← q6,← q7] at hc;unfold rsw;rw[hz,e1];exact hist_ext (e0.trans w.kind.symm) w.schema.symm w.zeroAt.symm (by simp only;omega) (by simp only;rw[e4,w.count]) (e5.trans w.sum.symm) q6 q7
theorem ref_Down (a:Z1) (s:Int) (hv:Z1b a) (hf:Fits a):∃ r e,Z2u.f a s=some (r,e)∧Z3k.f a s=some (r,e):=by
 by_cases h:Z19 s∧s≤a.f1
 case neg =>
  refine⟨h0,20,Down_bad a s h,?_⟩;unfold Z3k.f;by_cases hs:Z19 s
  ·rw[Z57,sb,if_neg (by simp[hs]),sb,if_pos (by simp;have:¬ s≤a.f1:=fun q=>h ⟨hs,q⟩;omega)];rfl
  ·rw[Z57,sb,if_pos (by simp[hs]),sb,if_pos rfl];rfl
 obtain⟨hs,hle⟩:=h;have l1:=hv.pos.len;have l2:=hv.neg.len;have h1:=hv.count;have h2:=hv.total;have p6:=Zbr hv.schema hs hle (Z4w hv.pos);have p7:=Zbr hv.schema hs hle (Z4w hv.neg);have n6:=Z0a hv.pos.canon.nn;have n7:=Z0a hv.neg.canon.nn;have hz:=hf.zero.1;obtain⟨r,e,w⟩:=Z9j (⟨a.f0,s,a.f2,a.f3,a.f4,a.f5,a.f6,a.f7⟩:Z1) (Z5u a.f1 s a.f6) (Z5u a.f1 s a.f7) a.f2 hv.kind hs hv.zero hz hf.sum p6 p7
  (by rw[Z69];exact l1) (by rw[Z69];exact l2) (by rw[Z58,Z58];exact h2)
 refine⟨r,0,?_,?_⟩
 ·unfold         Z2u.f
  rw[Z6n hs,sb,if_neg (by simp),sb,if_neg (by simp;omega),down_eq a.f6 a.f1 s hv.schema hs hle (by omega) (Z4w hv.pos).ins,down_eq a.f7 a.f1 s hv.schema hs hle (by omega) (Z4w hv.neg).ins,sb,sb,e];rfl
 ·obtain⟨o6,e6,c6,t6,m6⟩:=coarse_eq a.f6 a.f1 s hv.schema hs hle (Z4w     hv.pos) (by omega)
  obtain⟨o7,e7,c7,t7,m7⟩:=coarse_eq a.f7 a.f1 s hv.schema hs hle (Z4w hv.neg) (by omega);have cs6:Cs s o6:=⟨by omega,fun b hb=>by
   by_cases hc:∃ x∈Z5u a.f1 s a.f6,x.f0=b.f0
   ·obtain⟨x,hx,e⟩:=hc;rw[← e];exact p6.ins x hx
   ·have h3:=t6 b.f0
    rw[c6.tot_of hb,tot_zero (fun x hx e=>hc ⟨x,hx,e⟩)] at h3;have:=c6.pos b hb;omega,c6.pos⟩
  have cs7:Cs s o7:=⟨by omega,fun b hb=>by
   by_cases hc:∃ x∈Z5u a.f1 s a.f7,x.f0=b.f0
   ·obtain⟨x,hx,e⟩:=hc;rw[← e];exact p7.ins x hx
   ·have h3:=t7 b.f0
    rw[c7.tot_of hb,tot_zero (fun x hx e=>hc ⟨x,hx,e⟩)] at h3;have:=c7.pos b hb;omega,c7.pos⟩
  have q6:=Z4n t6;have q7:=Z4n t7;rw[Z58] at q6 q7;unfold Z3k.f;rw[Z57,sb,if_neg (by simp[hs]),sb,if_neg (by simp;omega),e6,e7,sb,sb,rsw_eq (⟨a.f0,s,a.f2,a.f3,a.f4,a.f5,o6,o7⟩:Z1) a.f2 hs cs6 cs7 hz (by simp only;omega),sb];rw[swal_rsw (g:=(⟨a.f0,s,a.f2,a.f3,a.f4,a.f5,o6,o7⟩:Z1)) w p6.pos p7.pos c6 c7 t6 t7 rfl rfl rfl (by simp only[Z58];exact h1) rfl]
theorem ref_Widen (a:Z1) (z:Int) (hv:Z1b a) (hf:Fits a):∃ r e,Z1l.f a z=some (r,e)∧Z42.f a z=some (r,e):=by
 by_cases h1:z=a.f2
 ·subst h1
  refine⟨a,0,Z4v a hv,?_⟩;unfold Z42.f;rw[if_neg (by simp),if_neg (by simp),sb,if_neg (by simp),if_pos (by simp)]
 by_cases h2:a.f2<z ∧ -262144<z∧z≤262144
 ·obtain⟨r,e,w⟩:=Z5l        a z hv hf h2.2 h2.1
  refine⟨r,0,e,?_⟩;have hc:=hv.count;unfold Z42.f;rw[if_neg (by simp;omega),if_pos (by simpa using h1),if_neg (by simp;omega),sb,if_neg (by simp;omega),if_neg (by simpa using h1),rsw_eq a z hv.schema (Z4w hv.pos) (Z4w hv.neg) hf.zero.1 hv.total,sb,
   swal_rsw (g:=a) w (Z4w hv.pos).pos (Z4w hv.neg).pos hv.pos.canon hv.neg.canon (fun _=>rfl) (fun _=>rfl) rfl rfl rfl hc rfl]
 ·refine⟨h0,31,Zc5       a z (by by_cases h3:z<a.f2;exact .inl h3;exact .inr ⟨h1,fun q=>h2 ⟨by omega,q⟩⟩),?_⟩
  unfold Z42.f;by_cases h3:z<a.f2
  ·rw[if_pos (by simpa using h3),sb,if_pos rfl];rfl
  ·rw[if_neg (by simpa using h3),if_pos (by simpa using h1)]
   have:((if(decide (z≤(-262144)))=true then(some true) else(some (decide (z>(262144:Int))))):Option (Bool))=some true:=by
    by_cases h4:z ≤ -262144
    ·rw[if_pos (by simpa using h4)]
    ·rw[if_neg (by simpa using h4)];simp;omega
   rw[this,sb,if_pos rfl];rfl
end Go.Proofs.YtcilcefjcaimoaaGreat.PvGQ
namespace Go.Proofs.YtcilcefjcaimoaaGreat.PvGQ
open Go Go.Pv Go.Pv.GS Go.IntKind
abbrev Z79 (since at_:Int) (s:Z06):Bool:=decide (since<s.f0∧s.f0≤at_)
theorem win_inst (l:List Z06) (a b:Int):Zn.f l a b=deleteF.f (fun x=>Z24.f x a b) (⟨0,(⟨0,0,0,0,0,0,[],[]⟩:Z1)⟩:Z06) l:=by kernel_rfl
theorem win_eq (l:List Z06) (hl:l.length<1000000000) (a b:Int):Z4s.f l a b=some (l.filter (Z79 a b)):=by
 unfold Z4s.f Z1s.f;rw[chkB (by simp;omega),sb,win_inst,Zcw (p:=fun s => !Z79 a b s) (fun s=>by
  unfold Z24.f Z79;by_cases c:s.f0≤a
  ·rw[if_pos (by simpa using c),sb,decide_eq_false (by omega)];rfl
  ·rw[if_neg (by simpa using c),sb]
   by_cases c2:s.f0>b
   ·rw[decide_eq_true c2,decide_eq_false (by omega)];rfl
   ·rw[decide_eq_false c2,decide_eq_true (by omega)];rfl) _ _ (by omega),sb]
 simp only[Bool.not_not]
theorem rtime (t:Int):Z4q.f t=some (decide (0≤t∧t≤1099511627776)):=by
 unfold Z4q.f;by_cases c:0≤t<;>simp[c]
abbrev ans0:Z7:=⟨(⟨0,0,0,0,0,0,[],[]⟩:Z1),0,0,(⟨0,0,0⟩:Z8),(⟨0,0,0⟩:Ze)⟩
end Go.Proofs.YtcilcefjcaimoaaGreat.PvGQ
namespace Go.Proofs.YtcilcefjcaimoaaGreat.PvGQ
open Go Go.Pv Go.Pv.GS Go.IntKind
open Classical
theorem Zd4 (a b p q:Z1) (s zp zq:Int) (hp:Cut a s zp p) (hq:Cut b s zq q) :
  ∃ p' q' z,         Z0i.l0 (p.f0,p.f1,p.f2,p.f3,p.f4,p.f5,p.f6,p.f7,q.f0,q.f1,q.f2,q.f3,q.f4,q.f5,q.f6,q.f7)=some (.inr (p'.f0,p'.f1,p'.f2,p'.f3,p'.f4,p'.f5,p'.f6,p'.f7,q'.f0,q'.f1,q'.f2,q'.f3,q'.f4,q'.f5,q'.f6,q'.f7)) ∧
   Cut a s z p'∧Cut b s z q'∧z=(if zp<zq then zAt s zq p.f6 p.f7 else if zq<zp then zAt s zp q.f6 q.f7 else zp):=by
 have done:∀ (p q:Z1) (z:Int),p.f2=z→q.f2=z→Z0i.l0 (p.f0,p.f1,p.f2,p.f3,p.f4,p.f5,p.f6,p.f7,q.f0,q.f1,q.f2,q.f3,q.f4,q.f5,q.f6,q.f7)=some (.inr (p.f0,p.f1,p.f2,p.f3,p.f4,p.f5,p.f6,p.f7,q.f0,q.f1,q.f2,q.f3,q.f4,q.f5,q.f6,q.f7)):=by
  intro p q z h1 h2;rw[Z0i.l0]
  (try simp only[])
  rw[if_neg (by simp[h1,h2])]
 have step:∀ (p q p' q':Z1),p.f2≠q.f2→Z1l.f p (if q.f2>p.f2 then q.f2 else p.f2)=some (p',0)→Z1l.f q (if q.f2>p.f2 then q.f2 else p.f2)=some (q',0) →
   Z0i.l0 (p.f0,p.f1,p.f2,p.f3,p.f4,p.f5,p.f6,p.f7,q.f0,q.f1,q.f2,q.f3,q.f4,q.f5,q.f6,q.f7)=Z0i.l0 (p'.f0,p'.f1,p'.f2,p'.f3,p'.f4,p'.f5,p'.f6,p'.f7,q'.f0,q'.f1,q'.f2,q'.f3,q'.f4,q'.f5,q'.f6,q'.f7):=by
  intro p q p' q' hne h1 h2
  conv=>lhs;rw[Z0i.l0]
  (try simp only[])
  rw[if_pos (by simpa using hne),h1,sb,h2,sb,if_neg (by simp)]
 have rng:∀ (u:Z1) (z:Int),Z1b u→z<u.f2→(z = -524288∨(-262144<z∧z≤262144)) → -262144<u.f2∧u.f2≤262144:=by
  intro u z hu hlt hz;rcases hu.zero with h | h
  ·rcases hz with h' | h'<;>omega
  ·exact h
 by_cases h1:zp<zq
 ·have hz:=rng q zp hq.valid (by rw[hq.zeroAt];exact h1) (hp.zeroAt ▸ hp.valid.zero)
  rw[hq.zeroAt] at hz;obtain⟨p1,e1,w1⟩:=Z5l p zq hp.valid hp.fits hz (by rw[hp.zeroAt];exact h1);have c1:=hp.widen (by omega) w1;have es:=step p q p1 q (by rw[hp.zeroAt,hq.zeroAt];omega) (by rw[hp.zeroAt,hq.zeroAt,if_pos h1];exact e1) (by rw[hp.zeroAt,hq.zeroAt,if_pos h1];have:=Z4v q hq.valid;rw[hq.zeroAt] at this;exact this);rw[es,if_pos h1];rcases zAt_or s zq p.f6 p.f7 with ⟨hA,_⟩ | hA
  ·exact⟨p1,q,zq,done p1 q zq (by rw[c1.zeroAt,hA]) hq.zeroAt,hA ▸ c1,hq,hA.symm⟩
  ·by_cases heq:zAt s zq p.f6 p.f7=zq
   ·exact⟨p1,q,zq,done p1 q zq (by rw[c1.zeroAt,heq]) hq.zeroAt,heq ▸ c1,hq,heq.symm⟩
   have hgt:zq<zAt s zq p.f6 p.f7:=by have:=zAt_le s zq p.f6 p.f7;omega
   have hz2:=rng p1 zq c1.valid (by rw[c1.zeroAt];exact hgt) (.inr hz);rw[c1.zeroAt] at hz2;obtain⟨q1,e2,w2⟩:=Z5l q (zAt s zq p.f6 p.f7) hq.valid hq.fits hz2 (by rw[hq.zeroAt];exact hgt);have c2:=hq.widen (by omega) w2;have hno:zAt s (zAt s zq p.f6 p.f7) q.f6 q.f7=zAt s zq p.f6 p.f7:=by rw[hA];exact zAt_no Z77 Z77
   rw[hno] at c2;have es2:=step p1 q p1 q1 (by rw[c1.zeroAt,hq.zeroAt];omega) (by rw[c1.zeroAt,hq.zeroAt,if_neg (by omega)];have:=Z4v p1 c1.valid;rw[c1.zeroAt] at this;exact this) (by rw[c1.zeroAt,hq.zeroAt,if_neg (by omega)];exact e2);rw[es2];exact⟨p1,q1,_,done p1 q1 _ c1.zeroAt c2.zeroAt,c1,c2,rfl⟩
 ·by_cases h2:zq<zp
  ·have hz:=rng p zq hp.valid (by rw[hp.zeroAt];exact h2) (hq.zeroAt ▸ hq.valid.zero)
   rw[hp.zeroAt] at hz;obtain⟨q1,e1,w1⟩:=Z5l q zp hq.valid hq.fits hz (by rw[hq.zeroAt];exact h2);have c1:=hq.widen (by omega) w1;have es:=step p q p q1 (by rw[hp.zeroAt,hq.zeroAt];omega) (by rw[hp.zeroAt,hq.zeroAt,if_neg h1];have:=Z4v p hp.valid;rw[hp.zeroAt] at this;exact this) (by rw[hp.zeroAt,hq.zeroAt,if_neg h1];exact e1);rw[es,if_neg h1,if_pos h2];rcases zAt_or s zp q.f6 q.f7 with ⟨hA,_⟩ | hA
   ·exact⟨p,q1,zp,done p q1 zp hp.zeroAt (by rw[c1.zeroAt,hA]),hp,hA ▸ c1,hA.symm⟩
   ·by_cases heq:zAt s zp q.f6 q.f7=zp
    ·exact⟨p,q1,zp,done p q1 zp hp.zeroAt (by rw[c1.zeroAt,heq]),hp,heq ▸ c1,heq.symm⟩
    have hgt:zp<zAt s zp q.f6 q.f7:=by have:=zAt_le s zp q.f6 q.f7;omega
    have hz2:=rng q1 zp c1.valid (by rw[c1.zeroAt];exact hgt) (.inr hz);rw[c1.zeroAt] at hz2;obtain⟨p1,e2,w2⟩:=Z5l p (zAt s zp q.f6 q.f7) hp.valid hp.fits hz2 (by rw[hp.zeroAt];exact hgt);have c2:=hp.widen (by omega) w2;have hno:zAt s (zAt s zp q.f6 q.f7) p.f6 p.f7=zAt s zp q.f6 q.f7:=by rw[hA];exact zAt_no Z77 Z77
    rw[hno] at c2;have es2:=step p q1 p1 q1 (by rw[c1.zeroAt,hp.zeroAt];omega) (by rw[c1.zeroAt,hp.zeroAt,if_pos (by omega)];exact e2) (by rw[c1.zeroAt,hp.zeroAt,if_pos (by omega)];have:=Z4v q1 c1.valid;rw[c1.zeroAt] at this;exact this);rw[es2];exact⟨p1,q1,_,done p1 q1 _ c2.zeroAt c1.zeroAt,c2,c1,rfl⟩
  ·have:zp=zq:=by omega
   subst this;rw[if_neg h1,if_neg h2];exact⟨p,q,zp,done p q zp hp.zeroAt hq.zeroAt,hp,hq,rfl⟩
theorem Alike_eq (a b:Z1) (ha:Z1b a) (fa:Fits a) (hb:Z1b b) (fb:Fits b) :
  ∃ p0 q0 p q s z,s=(if b.f1<a.f1 then b.f1 else a.f1) ∧         Z2u.f a s=some (p0,0) ∧         Z2u.f b s=some (q0,0)∧Cut a s p0.f2 p0∧Cut b s q0.f2 q0 ∧          Z0i.f a b=some (p,q,0)∧Cut a s z p∧Cut b s z q ∧
   z=(if p0.f2<q0.f2 then zAt s q0.f2 p0.f6 p0.f7 else if q0.f2<p0.f2 then zAt s p0.f2 q0.f6 q0.f7 else p0.f2):=by
 have hs:Z19 (if b.f1<a.f1 then b.f1 else a.f1):=by split;exact hb.schema;exact ha.schema
 obtain⟨p0,e1,c1⟩:=Down_eq a _ ha fa hs (by split<;>omega);obtain⟨q0,e2,c2⟩:=Down_eq b _ hb fb hs (by split<;>omega);have c1':=c1;have c2':=c2;rw[← c1.zeroAt] at c1';rw[← c2.zeroAt] at c2';obtain⟨p,q,z,el,cp,cq,hz⟩:=Zd4 a b p0 q0 _ _ _ c1' c2';refine⟨p0,q0,p,q,_,z,rfl,e1,e2,c1',c2',?_,cp,cq,hz⟩;unfold Z0i.f;rw[e1,sb,e2,sb,if_neg (by simp)];simp only[];rw[el];rfl
theorem Zc4 (a r:Z1) (z:Int) (hv:Z1b a) (hf:Fits a) (h:Z1l.f a z=some (r,0)):Z1b r∧Fits r:=by
 by_cases h1:z=a.f2
 ·subst h1;rw[Z4v a hv] at h;simp at h;subst h;exact⟨hv,hf⟩
 by_cases h2:a.f2<z ∧ -262144<z∧z≤262144
 ·obtain⟨r',e,w⟩:=Z5l        a z hv hf h2.2 h2.1
  rw[e] at h;simp at h;subst h;exact⟨w.valid,w.fits⟩
 ·rw[Zc5       a z (by by_cases h3:z<a.f2;exact .inl h3;exact .inr ⟨h1,fun q=>h2 ⟨by omega,q⟩⟩)] at h
  simp at h
theorem Zd5 (a r:Z1) (z e:Int) (hv:Z1b a) (hf:Fits a) (h:Z1l.f a z=some (r,e)):e=0∨e=31:=by
 by_cases h1:z=a.f2
 ·subst h1;rw[Z4v a hv] at h;simp at h;exact .inl h.2.symm
 by_cases h2:a.f2<z ∧ -262144<z∧z≤262144
 ·obtain⟨r',e',w⟩:=Z5l        a z hv hf h2.2 h2.1
  rw[e'] at h;simp at h;exact .inl h.2.symm
 ·rw[Zc5       a z (by by_cases h3:z<a.f2;exact .inl h3;exact .inr ⟨h1,fun q=>h2 ⟨by omega,q⟩⟩)] at h
  simp at h;exact .inr h.2.symm
theorem Zc9 (p q p' q':Z1) (hp:Z1b p) (fp:Fits p) (hq:Z1b q) (fq:Fits q)
  (h:Z0i.l0 (p.f0,p.f1,p.f2,p.f3,p.f4,p.f5,p.f6,p.f7,q.f0,q.f1,q.f2,q.f3,q.f4,q.f5,q.f6,q.f7)=some (.inr (p'.f0,p'.f1,p'.f2,p'.f3,p'.f4,p'.f5,p'.f6,p'.f7,q'.f0,q'.f1,q'.f2,q'.f3,q'.f4,q'.f5,q'.f6,q'.f7))) :
  Z1n.l0 (p.f0,p.f1,p.f2,p.f3,p.f4,p.f5,p.f6,p.f7,q.f0,q.f1,q.f2,q.f3,q.f4,q.f5,q.f6,q.f7)=some (p'.f0,p'.f1,p'.f2,p'.f3,p'.f4,p'.f5,p'.f6,p'.f7,q'.f0,q'.f1,q'.f2,q'.f3,q'.f4,q'.f5,q'.f6,q'.f7):=by
 refine Z0i.l0.partial_correctness (motive:=fun v o=>∀ p q:Z1,v=(p.f0,p.f1,p.f2,p.f3,p.f4,p.f5,p.f6,p.f7,q.f0,q.f1,q.f2,q.f3,q.f4,q.f5,q.f6,q.f7)→Z1b p→Fits p→Z1b q→Fits q →
  o = .inr (p'.f0,p'.f1,p'.f2,p'.f3,p'.f4,p'.f5,p'.f6,p'.f7,q'.f0,q'.f1,q'.f2,q'.f3,q'.f4,q'.f5,q'.f6,q'.f7)→Z1n.l0 v=some (p'.f0,p'.f1,p'.f2,p'.f3,p'.f4,p'.f5,p'.f6,p'.f7,q'.f0,q'.f1,q'.f2,q'.f3,q'.f4,q'.f5,q'.f6,q'.f7)) ?_ _ _ h p q rfl hp fp hq fq rfl
 clear h hp fp hq fq p q;intro self ih v o H p q hv hp fp hq fq ho;subst hv;subst ho;dsimp only at H;rw[Z1n.l0];dsimp only;by_cases hz:p.f2=q.f2
 ·rw[if_neg (by simpa using hz)] at H ⊢
  simpa using H
 ·rw[if_pos (by simpa using hz)] at H ⊢
  obtain⟨⟨r1,e1⟩,w1,H⟩:=Z7v H;obtain⟨⟨r2,e2⟩,w2,H⟩:=Z7v H;dsimp only at H;have he:e1=0∧e2=0:=by
   rcases Zd5 p r1 _ e1 hp fp w1 with h1 | h1<;>rcases Zd5 q r2 _ e2 hq fq w2 with h2 | h2<;>subst h1<;>subst h2<;>simp at H ⊢
  obtain⟨rfl,rfl⟩:=he;rw[if_neg (by simp)] at H;have v1:=Zc4 p r1 _ hp fp w1;have v2:=Zc4 q r2 _ hq fq w2;have key:=ih _ _ H r1 r2 rfl v1.1 v1.2 v2.1 v2.2 rfl;by_cases hlt:p.f2<q.f2
  ·rw[if_pos (show q.f2>p.f2 from hlt)] at w1 w2
   rw[Z4v q hq] at w2;simp at w2;subst w2;obtain⟨r,e,g1,g2⟩:=ref_Widen p q.f2 hp fp;rw[w1] at g1;simp at g1;obtain⟨rfl,rfl⟩:=g1;rw[if_pos (by simpa using hlt),g2,sb,sb];exact key
  ·rw[if_neg (show ¬ q.f2>p.f2 from hlt)] at w1 w2
   rw[Z4v p hp] at w1;simp at w1;subst w1;obtain⟨r,e,g1,g2⟩:=ref_Widen q p.f2 hq fq;rw[w2] at g1;simp at g1;obtain⟨rfl,rfl⟩:=g1;rw[if_neg (by simpa using hlt),g2,sb,sb];exact key
theorem ref_Alike (a b:Z1) (ha:Z1b a) (fa:Fits a) (hb:Z1b b) (fb:Fits b):∃ p q,Z0i.f a b=some (p,q,0)∧Z1n.f a b=some (p,q)∧Z1b p∧Z1b q∧p.f2=q.f2∧p.f1=q.f1:=by
 have hs:Z19 (if b.f1<a.f1 then b.f1 else a.f1):=by split;exact hb.schema;exact ha.schema
 obtain⟨p0,e1,c1⟩:=Down_eq a _ ha fa hs (by split<;>omega);obtain⟨q0,e2,c2⟩:=Down_eq b _ hb fb hs (by split<;>omega);have c1':=c1;have c2':=c2;rw[← c1.zeroAt] at c1';rw[← c2.zeroAt] at c2';obtain⟨p,q,z,el,cp,cq,hz⟩:=Zd4 a b p0 q0 _ _ _ c1' c2';refine⟨p,q,?_,?_,cp.valid,cq.valid,cp.zeroAt.trans cq.zeroAt.symm,cp.schema.trans cq.schema.symm⟩
 ·unfold          Z0i.f
  rw[e1,sb,e2,sb,if_neg (by simp)]
  (try simp only[])
  rw[el];rfl
 ·have rl:=Zc9            p0 q0 p q c1.valid c1.fits c2.valid c2.fits el
  obtain⟨r1,g1,d1,d2⟩:=ref_Down a (if b.f1<a.f1 then b.f1 else a.f1) ha fa;obtain⟨r2,g2,d3,d4⟩:=ref_Down b (if b.f1<a.f1 then b.f1 else a.f1) hb fb;rw[e1] at d1;simp at d1;obtain⟨rfl,rfl⟩:=d1;rw[e2] at d3;simp at d3;obtain⟨rfl,rfl⟩:=d3;unfold Z1n.f;by_cases hlt:a.f1<b.f1
  ·rw[if_neg (show ¬ b.f1<a.f1 by omega)] at d2 d4
   rw[if_pos (by simpa using hlt),d4,sb,d2,sb,sb];dsimp only;rw[rl];rfl
  ·by_cases hlt2:b.f1<a.f1
   ·rw[if_pos hlt2] at d2 d4
    rw[if_neg (by simpa using hlt),d2,sb,d4,sb,sb];dsimp only;rw[rl];rfl
   ·have heq:a.f1=b.f1:=by omega
    rw[if_neg hlt2] at d2 d4;rw[if_neg (by simpa using hlt),← heq,d2,sb,d4,sb,sb];dsimp only;rw[rl];rfl
end Go.Proofs.YtcilcefjcaimoaaGreat.PvGQ
namespace Go.Proofs.YtcilcefjcaimoaaGreat.PvGQ
open Go Go.Pv Go.Pv.GS Go.IntKind
theorem addint_l0 (l:List Int) (hl:l.length<1000000):∀ (suf pre:List Int) (hi lo i:Int),l=pre++suf→i=(pre.length:Int)→U64 lo → -(pre.length:Int)≤hi→hi≤pre.length→(∀ x∈suf,I64 x) →
  ∃ hi' lo',Z2o.l0 l hi lo i=some (hi',lo')∧U64 lo'∧hi'*18446744073709551616+lo'=hi*18446744073709551616+lo+suf.sum ∧ -(l.length:Int)≤hi'∧hi'≤l.length:=by
 intro suf
 induction suf with
 | nil =>
  intro pre hi lo i h1 hi0 hlo ha hb _;rw[List.append_nil] at h1;subst h1;rw[Z2o.l0,if_neg (by simp[hi0])];exact⟨hi,lo,rfl,hlo,by simp,ha,hb⟩
 | cons x suf ih =>
  intro pre hi lo i h1 hi0 hlo ha hb hs;have hx:=hs x (by simp);have hlen:(l.length:Int)=pre.length+(suf.length+1):=by rw[h1];simp
  rw[Z2o.l0,if_pos (by simp;omega),Z0t h1 hi0,sb,chkB ⟨hlo.1,(Zan x).1,by omega,by omega⟩,Zh (n:=i+1) (by omega) (by omega)];rw[Int.fdiv_eq_ediv_of_nonneg _ (by omega),Z72 x];rw[Zh (n:=(lo+x % 18446744073709551616+0) / 18446744073709551616) (by omega) (by omega),Zh (n:=x / 9223372036854775808+_) (by omega) (by omega),Zh (n:=hi+_) (by omega) (by omega)];obtain⟨hi',lo',e,g1,g2,g3,g4⟩:=ih (pre++[x]) (hi+(x / 9223372036854775808+(lo+x % 18446744073709551616+0) / 18446744073709551616)) ((lo+x % 18446744073709551616+0) % 18446744073709551616) (i+1) (by simp[h1]) (by simp;omega) ⟨by omega,by omega⟩ (by simp;omega) (by simp;omega) (fun y hy=>hs y (by simp[hy]));refine⟨hi',lo',e,g1,?_,g3,g4⟩;rw[g2,List.sum_cons];have hx1:=hx.1;have hx2:=hx.2;have:x / 9223372036854775808*18446744073709551616+x % 18446744073709551616=x:=by omega
  omega
theorem addint (l:List Int) (hl:l.length<1000000) (h:∀ x∈l,I64 x):Z2o.f l=some (if I64 l.sum then(l.sum,0) else(0,5)):=by
 unfold Z2o.f;obtain⟨hi,lo,e,g1,g2,g3,g4⟩:=addint_l0 l hl l [] 0 0 0 rfl rfl (by omega) (by simp) (by simp) h;rw[e,sb];simp only[];rw[Int.fdiv_eq_ediv_of_nonneg _ (by omega),wrap64_eq lo];simp only[Int.zero_mul,Int.zero_add] at g2;by_cases hI:I64 l.sum
 ·rw[if_pos hI,if_neg (by simp;omega)]
  congr 2;omega
 ·rw[if_neg hI,if_pos (by simp;omega)]
theorem subint {a b:Int} (ha:I64 a) (hb:I64 b):Z53.f a b=some (if I64 (a-b) then(a-b,0) else(0,5)):=by
 unfold Z53.f;rw[wrap64_eq];by_cases hI:I64 (a-b)
 ·rw[if_pos hI]
  have e:(a-b+9223372036854775808) % 18446744073709551616-9223372036854775808=a-b:=by omega
  rw[e,if_neg];by_cases h:a<b
  ·simp[h]<;>omega
  ·simp[h];omega
 ·rw[if_neg hI,if_pos]
  by_cases h:a<b
  ·simp[h];omega
  ·simp[h];omega
theorem num_sub {a b:Int} (ha:U64 a) (hb:U64 b):Z6x.f a b=some (if b≤a then(a-b,0) else(0,5)):=by
 unfold Z6x.f;by_cases h:b≤a
 ·rw[if_neg (by simp;omega),if_pos h,Z28 (by omega) (by omega)]
 ·rw[if_pos (by simp;omega),if_neg h]
theorem halves_eq {x:Int} (hx:I64 x):((if(decide ((Int.tmod x (4294967296:Int))<(0:Int)))=true then(some (i64.wrap ((i64.wrap (Int.tdiv x (4294967296:Int)))-(1:Int)),i64.wrap ((Int.tmod x (4294967296:Int))+(4294967296:Int)))) else(some (i64.wrap (Int.tdiv x (4294967296:Int)),Int.tmod x (4294967296:Int)))):Option (Int×Int))=some (x / 4294967296,x % 4294967296):=by
 by_cases h0:0≤x
 ·rw[Int.tdiv_eq_ediv_of_nonneg h0,Int.tmod_eq_emod_of_nonneg h0,if_neg (by simp;omega),Zh (by omega) (by omega)]
 ·have e1:Int.tdiv x 4294967296 = -((-x) / 4294967296):=by
   rw[← Int.tdiv_eq_ediv_of_nonneg (show 0 ≤ -x by omega),Int.neg_tdiv];omega
  have e2:Int.tmod x 4294967296 = -((-x) % 4294967296):=by
   rw[← Int.tmod_eq_emod_of_nonneg (show 0 ≤ -x by omega),Int.neg_tmod];omega
  rw[e1,e2];by_cases h1:(-x) % 4294967296=0
  ·rw[if_neg (by simp;omega),Zh     (by omega) (by omega)]
   congr 2<;>omega
  ·rw[if_pos (by simp;omega),Zh     (n:=-(-x / 4294967296)) (by omega) (by omega),Zh     (by omega) (by omega),Zh     (by omega) (by omega)]
   congr 2<;>omega
theorem raddint_l0 (l:List Int) (hl:l.length<1000):∀ (suf pre:List Int) (hi lo i:Int),l=pre++suf→i=(pre.length:Int)→0≤lo→lo≤4294967296*pre.length → -(2147483648*(pre.length:Int))≤hi→hi≤2147483648*pre.length→(∀ x∈suf,I64 x) →
  ∃ hi' lo',Z1u.l0 l hi lo i=some (hi',lo')∧0≤lo'∧lo'≤4294967296*l.length∧hi'*4294967296+lo'=hi*4294967296+lo+suf.sum ∧ -(2147483648*(l.length:Int))≤hi'∧hi'≤2147483648*l.length:=by
 intro suf
 induction suf with
 | nil =>
  intro pre hi lo i h1 hi0 h2 h3 ha hb _;rw[List.append_nil] at h1;subst h1;rw[Z1u.l0,if_neg (by simp[hi0])];exact⟨hi,lo,rfl,h2,h3,by simp,ha,hb⟩
 | cons x suf ih =>
  intro pre hi lo i h1 hi0 h2 h3 ha hb hs;have hx:=hs x (by simp);have hlen:(l.length:Int)=pre.length+(suf.length+1):=by rw[h1];simp
  rw[Z1u.l0,if_pos (by simp;omega),Z0t h1 hi0,sb,halves_eq hx,sb];simp only[];rw[Zh (n:=i+1) (by omega) (by omega),Zh (n:=hi+_) (by omega) (by omega),Zh (n:=lo+_) (by omega) (by omega)];obtain⟨hi',lo',e,g1,g2,g3,g4,g5⟩:=ih (pre++[x]) (hi+x / 4294967296) (lo+x % 4294967296) (i+1) (by simp[h1]) (by simp;omega) (by omega) (by simp;omega) (by simp;omega) (by simp;omega) (fun y hy=>hs y (by simp[hy]));refine⟨hi',lo',e,g1,g2,?_,g4,g5⟩;rw[g3,List.sum_cons];omega
theorem raddint (l:List Int) (hl:l.length<1000) (h:∀ x∈l,I64 x):Z1u.f l=some (if I64 l.sum then(l.sum,0) else(0,5)):=by
 unfold Z1u.f;obtain⟨hi,lo,e,g1,g2,g3,g4,g5⟩:=raddint_l0 l hl l [] 0 0 0 rfl rfl (by omega) (by simp) (by simp) (by simp) h;rw[e,sb];simp only[];simp only[Int.zero_mul,Int.zero_add] at g3;rw[Int.tdiv_eq_ediv_of_nonneg g1,Int.tmod_eq_emod_of_nonneg g1,Zh (n:=lo / 4294967296) (by omega) (by omega),Zh (n:=hi+_) (by omega) (by omega),ifor,sb];by_cases hI:I64 l.sum
 ·rw[if_pos hI,if_neg (by simp;omega),Zh     (n:=(hi+_)*_) (by omega) (by omega),Zh     (by omega) (by omega)]
  congr 2;omega
 ·rw[if_neg hI,if_pos (by simp;omega)]
end Go.Proofs.YtcilcefjcaimoaaGreat.PvGQ
