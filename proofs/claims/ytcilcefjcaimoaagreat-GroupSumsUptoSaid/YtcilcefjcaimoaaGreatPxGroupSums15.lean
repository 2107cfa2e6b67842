import Derived.Test.YtcilcefjcaimoaaGreatPxGroupSums14
set_option linter.unusedVariables false
set_option linter.unusedSimpArgs false
set_option maxRecDepth 10000
namespace Go.Proofs.YtcilcefjcaimoaaGreat.PvGQ
open Go Go.Pv Go.Pv.GS Go.IntKind
open Classical
structure Right8 (h:Z1):Prop where
 pos:h.f6.length≤100
 neg:h.f7.length≤100
 valid:Z0l h
abbrev Zas (s:Int) (b:Z0):Zl:=⟨⟨-1,s,b.f0⟩,b.f1⟩
abbrev Z91 (s:Int) (b:Z0):Zl:=⟨⟨1,s,b.f0⟩,b.f1⟩
def Zar (z:Int):List Zl:=if 0<z then [⟨⟨0,0,0⟩,z⟩] else []
def cells (h:Z1):List Zl:=(h.f7.reverse.map (Zas h.f1)++Zar h.f3)++h.f6.map (Z91 h.f1)
abbrev rc (c:Zl):Z4:=⟨c.f0.f0,c.f0.f1,c.f0.f2,c.f1⟩
theorem order_l0 (h:Z1) (hl:h.f7.length<1000000):∀ (suf pre:List Z0) (out:List Zl),h.f7.reverse=pre++suf→out.length≤pre.length →
  Z0j.l0 h out ((suf.length:Int)-1)=some (out++suf.map (Zas h.f1)):=by
 intro suf
 induction suf with
 | nil=>intro pre out h1 h2;rw[Z0j.l0,if_neg (by simp)];simp
 | cons x suf ih =>
  intro pre out h1 h2;have hlen:h.f7.length=pre.length+(suf.length+1):=by rw[← List.length_reverse,h1];simp
  have hx:at? h.f7 (((x::suf).length:Int)-1)=some x:=by
   refine Z9k (k:=suf.length) (by simp) ?_;have:h.f7=(pre++x::suf).reverse:=by rw[← h1];simp
   rw[this];simp
  rw[Z0j.l0,if_pos (by simp),hx,sb,chkB (by simp;omega)];have e:i64.wrap ((((x::suf).length:Int)-1)-1)=(suf.length:Int)-1:=by rw[Ze (by simp;omega) (by simp;omega)];simp
  rw[e];have:=ih (pre++[x]) (out++[Zas h.f1 x]) (by simp[h1]) (by simp;omega);simp only[Zas] at this ⊢;rw[this];simp[Zas]
theorem order_l1 (h:Z1) (hl:h.f6.length<1000000):∀ (suf pre:List Z0) (out:List Zl) (i:Int),h.f6=pre++suf→i=(pre.length:Int)→out.length≤1000001+pre.length →
  Z0j.l1 h out i=some (out++suf.map (Z91 h.f1)):=by
 intro suf
 induction suf with
 | nil=>intro pre out i h1 hi h2;rw[Z0j.l1,if_neg (by rw[h1];simp[hi])];simp
 | cons x suf ih =>
  intro pre out i h1 hi h2;have hlen:h.f6.length=pre.length+(suf.length+1):=by rw[h1];simp
  rw[Z0j.l1,if_pos (by simp;omega),Z0a h1 hi,sb,chkB (by simp;omega),Ze (by omega) (by omega)];have:=ih (pre++[x]) (out++[Z91 h.f1 x]) (i+1) (by simp[h1]) (by simp;omega) (by simp;omega);simp only[Z91] at this ⊢;rw[this];simp[Z91]
theorem order_eq (h:Z1) (hp:h.f6.length<1000000) (hn:h.f7.length<1000000):Z0j.f h=some (cells h):=by
 unfold Z0j.f;rw[Ze (by omega) (by omega)];have e:=order_l0 h hn h.f7.reverse [] [] (by simp) (by simp);rw[List.length_reverse] at e;rw[e,sb];have key:∀ o:List Zl,o.length≤1000001→((Z0j.l1 h o 0)>>=fun x=>some x)=some (o++h.f6.map (Z91 h.f1)):=by
  intro o ho;rw[order_l1 h hp h.f6 [] o 0 rfl rfl (by simp;omega),sb]
 by_cases hz:h.f3>0
 ·rw[if_pos (by simpa using hz),chkB (by simp;omega),sb,key _ (by simp;omega)]
  simp[cells,Zar,hz]
 ·rw[if_neg (by simpa using hz),sb,key _ (by simp;omega)]
  simp[cells,Zar,hz]
theorem ref_order_l0 (h:Z1) (hl:h.f7.length<1000000):∀ (suf pre:List Z0) (out:List Z4) (i:Int),h.f7.reverse=pre++suf→i=(pre.length:Int)→out.length≤pre.length →
  Z0w.l0 h out i=some (out++suf.map (fun b=>rc (Zas h.f1 b))):=by
 intro suf
 induction suf with
 | nil =>
  intro pre out i h1 hi h2;have:h.f7.length=pre.length:=by rw[← List.length_reverse,h1];simp
  rw[Z0w.l0,if_neg (by simp;omega)];simp
 | cons x suf ih =>
  intro pre out i h1 hi h2;have hlen:h.f7.length=pre.length+(suf.length+1):=by rw[← List.length_reverse,h1];simp
  have hx:at? h.f7 (((h.f7.length:Int)-1)-i)=some x:=by
   refine Z9k (k:=suf.length) (by omega) ?_;have:h.f7=(pre++x::suf).reverse:=by rw[← h1];simp
   rw[this];simp
  rw[Z0w.l0,if_pos (by simp;omega),Ze (n:=(h.f7.length:Int)-1) (by omega) (by omega),Ze (n:=((h.f7.length:Int)-1)-i) (by omega) (by omega),hx,sb,chkB (by simp;omega),Ze (by omega) (by omega)];have:=ih (pre++[x]) (out++[rc (Zas h.f1 x)]) (i+1) (by simp[h1]) (by simp;omega) (by simp;omega);simp only[Zas,rc] at this ⊢;rw[this];simp
theorem ref_order_l1 (h:Z1) (hl:h.f6.length<1000000):∀ (suf pre:List Z0) (out:List Z4) (i:Int),h.f6=pre++suf→i=(pre.length:Int)→out.length≤1000001+pre.length →
  Z0w.l1 h out i=some (out++suf.map (fun b=>rc (Z91 h.f1 b))):=by
 intro suf
 induction suf with
 | nil=>intro pre out i h1 hi h2;rw[Z0w.l1,if_neg (by rw[h1];simp[hi])];simp
 | cons x suf ih =>
  intro pre out i h1 hi h2;have hlen:h.f6.length=pre.length+(suf.length+1):=by rw[h1];simp
  rw[Z0w.l1,if_pos (by simp;omega),Z0a h1 hi,sb,chkB (by simp;omega),Ze (by omega) (by omega)];have:=ih (pre++[x]) (out++[rc (Z91 h.f1 x)]) (i+1) (by simp[h1]) (by simp;omega) (by simp;omega);simp only[Z91,rc] at this ⊢;rw[this];simp
theorem Z99 (h:Z1) (hp:h.f6.length<1000000) (hn:h.f7.length<1000000):Z0w.f h=some ((cells h).map rc):=by
 unfold Z0w.f;rw[ref_order_l0 h hn h.f7.reverse [] [] 0 (by simp) rfl (by simp),sb];have key:∀ o:List Z4,o.length≤1000001→((Z0w.l1 h o 0)>>=fun x=>some x)=some (o++h.f6.map (fun b=>rc (Z91 h.f1 b))):=by
  intro o ho;rw[ref_order_l1 h hp h.f6 [] o 0 rfl rfl (by simp;omega),sb]
 by_cases hz:h.f3>0
 ·rw[if_pos (by simpa using hz),chkB (by simp;omega),sb,key _ (by simp;omega)]
  simp[cells,Zar,hz,rc,Function.comp_def]
 ·rw[if_neg (by simpa using hz),sb,key _ (by simp;omega)]
  simp[cells,Zar,hz,Function.comp_def]
def csum (l:List Zl):Int:=(l.map (·.f1)).sum
theorem Z6b (c:Zl) (l:List Zl):csum (c::l)=c.f1+csum l:=by simp[csum]
theorem Z4w (a b:List Zl):csum (a++b)=csum a+csum b:=by simp[csum]
theorem Z6o {l:List Zl} (h:∀ c∈l,0<c.f1):0≤csum l:=Z4t (fun x hx=>by
 obtain⟨c,hc,rfl⟩:=List.mem_map.1 hx;have:=h c hc;omega)
theorem Z4c {h:Z1} (v:Z0l h):∀ c∈cells h,0<c.f1:=by
 intro c hc;simp only[cells,List.mem_append,List.mem_map,List.mem_reverse] at hc;rcases hc with (⟨b,hb,rfl⟩ | hc) | ⟨b,hb,rfl⟩
 ·exact(v.neg.ok b hb).pos
 ·unfold Zar   at hc;split at hc
  ·simp at hc;subst hc;assumption
  ·simp at hc
 ·exact(v.pos.ok b hb).pos
theorem csum_map (l:List Z0) (f:Z0→Zl) (h:∀ b,(f b).f1=b.f1):csum (l.map f)=cnt l:=by
 simp[csum,cnt,Function.comp_def,h]
theorem cnt_reverse (l:List Z0):cnt l.reverse=cnt l:=by
 unfold cnt;rw[List.map_reverse];exact isum_perm (List.reverse_perm _)
theorem Z8c {h:Z1} (v:Z0l h) (f:Fits h):csum (cells h)=h.f4:=by
 rw[cells,Z4w,Z4w,csum_map _ _ (fun b=>rfl),csum_map _ _ (fun b=>rfl),cnt_reverse,v.count];have hz:csum (Zar h.f3)=h.f3:=by
  unfold Zar;split
  ·simp[csum]
  ·have:=f.zero.1;simp[csum];omega
 omega
theorem Z8d {h:Z1} (v:Z0l h):(cells h).length≤1025:=by
 have h1:=v.pos.len;have h2:=v.neg.len;simp only[cells,List.length_append,List.length_map,List.length_reverse];have:(Zar h.f3).length≤1:=by unfold Zar;split<;>simp
 omega
def pick:List Zl→Int→Option Zl
 | [],_=>none
 | c::l,n=>if n≤c.f1 then some c else pick l (n-c.f1)
theorem pick_some:∀ (l:List Zl) (n:Int),n≤csum l→0<n→∃ c,pick l n=some c∧c∈l
 | [],n,h,h0=>by simp[csum] at h;omega
 | c::l,n,h,h0=>by
  unfold pick;split
  ·exact⟨c,rfl,by simp⟩
  ·rw[Z6b      ] at h
   obtain⟨d,e,m⟩:=pick_some l (n-c.f1) (by omega) (by omega);exact⟨d,e,by simp[m]⟩
theorem at_l0 (l:List Zl) (hl:l.length<1000000) (hp:∀ c∈l,0<c.f1):∀ (suf pre:List Zl) (n i:Int),l=pre++suf→i=(pre.length:Int)→U64 n →
  Z2p.l0 l n i=some (match pick suf n with | some c=>.inl (c.f0,0) | none=>.inr ()):=by
 intro suf
 induction suf with
 | nil=>intro pre n i h1 hi hn;rw[Z2p.l0,if_neg (by rw[h1];simp[hi])];rfl
 | cons x suf ih =>
  intro pre n i h1 hi hn;have hlen:(l.length:Int)=pre.length+(suf.length+1):=by rw[h1];simp
  have hx:=hp x (by rw[h1];simp);rw[Z2p.l0,if_pos (by simp;omega),Z0a h1 hi,sb,pick];by_cases c:n≤x.f1
  ·rw[if_pos (by simpa using c),if_pos c]
  ·rw[if_neg (by simpa using c),if_neg c,Ze     (by omega) (by omega),Z23   (by omega) (by have:=hn.2;omega)]
   exact ih (pre++[x]) _ _ (by simp[h1]) (by simp;omega) ⟨by omega,by have:=hn.2;omega⟩
def k0:Z8:=⟨0,0,0⟩
theorem at_cases (h:Z1) (v:Z0l h) (f:Fits h) (n:Int) (hn:U64 n) :
  (∃ e,e≠0∧Z2p.f h n=some (k0,e)∧¬ (1≤n∧n≤h.f4))∨(1≤n∧n≤h.f4∧∃ c,pick (cells h) n=some c∧c∈cells h∧Z2p.f h n=some (c.f0,0)):=by
 unfold Z2p.f;by_cases h0:h.f4=0
 ·rw[if_pos (by simpa using h0)]
  exact .inl ⟨30,by decide,rfl,by omega⟩
 rw[if_neg (by simpa using h0)];by_cases h1:n<1
 ·rw[if_pos (by simpa using h1),sb];exact .inl ⟨4,by decide,rfl,by omega⟩
 rw[if_neg (by simpa using h1),sb];by_cases h2:n>h.f4
 ·rw[if_pos (by simpa using h2)];exact .inl ⟨4,by decide,rfl,by omega⟩
 rw[if_neg (by simpa using h2)];have lp:=v.pos.len;have ln:=v.neg.len;have lc:=Z8d v;rw[order_eq h (by omega) (by omega),sb,at_l0 (cells h) (by omega) (Z4c v) (cells h) [] n 0 rfl rfl hn];obtain⟨c,e,m⟩:=pick_some (cells h) n (by rw[Z8c v f];omega) (by omega);rw[e,sb];exact .inr ⟨by omega,by omega,c,rfl,m,rfl⟩
def lo (h:Z1) (c:Zl):Int:=if c.f0.f0>0 then 1048576+(c.f0.f2-1)*stp h.f1 else if c.f0.f0<0 then -1048576-c.f0.f2*stp h.f1 else if h.f2 = -524288 then 0 else -1048576-h.f2
def hi (h:Z1) (c:Zl):Int:=if c.f0.f0>0 then 1048576+c.f0.f2*stp h.f1 else if c.f0.f0<0 then -1048576-(c.f0.f2-1)*stp h.f1 else if h.f2 = -524288 then 0 else 1048576+h.f2
inductive Zbz (h:Z1):Zl→Prop
 | neg (b:Z0) (hb:b∈h.f7) (ok:BOk h.f1 h.f2 b):Zbz h (Zas h.f1 b)
 | zero (hz:0<h.f3):Zbz h ⟨⟨0,0,0⟩,h.f3⟩
 | pos (b:Z0) (hb:b∈h.f6) (ok:BOk h.f1 h.f2 b):Zbz h (Z91 h.f1 b)
theorem cells_ok {h:Z1} (v:Z0l h):∀ c∈cells h,Zbz h c:=by
 intro c hc;simp only[cells,List.mem_append,List.mem_map,List.mem_reverse] at hc;rcases hc with (⟨b,hb,rfl⟩ | hc) | ⟨b,hb,rfl⟩
 ·exact .neg b hb (v.neg.ok b hb)
 ·unfold Zar   at hc;split at hc
  ·simp at hc;subst hc;exact .zero (by assumption)
  ·simp at hc
 ·exact .pos b hb (v.pos.ok b hb)
theorem Z7a {s i:Int} (hs:Z0v s) (hi:InS s i) : -262144-4096<(i-1)*stp s∧(i-1)*stp s<262144 ∧ -262144<i*stp s∧i*stp s≤262144∧(i-1)*stp s<i*stp s:=by
 have h1:=Z4j s;have h2:=stp_le hs;have h3:=hi.1;have h4:=hi.2;have e:(i-1)*stp s=i*stp s-stp s:=by rw[Int.sub_mul,Int.one_mul]
 omega
theorem ends_eq {h:Z1} (v:Z0l h) {c:Zl} (hc:Zbz h c):Z4v.f h c=some (lo h c,hi h c):=by
 unfold Z4v.f;cases hc with
 | neg b hb ok =>
  have:=Z7a v.schema ok.ins;simp only[Zas,lo,hi];rw[if_neg (show ¬ decide ((-1:Int)>0)=true by decide),if_pos (show decide ((-1:Int)<0)=true by decide),Z9r v.schema ok.ins,sb,low_T v.schema ok.ins,sb,Ze (by omega) (by omega),Ze (by omega) (by omega)];simp
 | zero hz =>
  simp only[lo,hi];rw[if_neg (show ¬ decide ((0:Int)>0)=true by decide),if_neg (show ¬ decide ((0:Int)<0)=true by decide)];have:=v.zero;by_cases h0:h.f2 = -524288
  ·rw[h0];simp
  ·rw[if_neg (show ¬ (h.f2 == -524288)=true by simpa using h0),Ze (by omega) (by omega),Ze (by omega) (by omega)];simp[h0]
 | pos b hb ok =>
  have:=Z7a v.schema ok.ins;simp only[Z91,lo,hi];rw[if_pos (show decide ((1:Int)>0)=true by decide),Z9r v.schema ok.ins,low_T v.schema ok.ins,sb,sb,Ze (by omega) (by omega),Ze (by omega) (by omega)];simp
def bsum (h:Z1) (a:Int):List Zl→Int
 | []=>0
 | c::l=>(if hi h c≤a then c.f1 else 0)+bsum h a l
def msum (h:Z1) (a:Int):List Zl→Int
 | []=>0
 | c::l=>(if hi h c≤a then 0 else if lo h c<a then c.f1 else 0)+msum h a l
theorem Zat (h:Z1) (a:Int) (l m:List Zl):bsum h a (l++m)=bsum h a l+bsum h a m:=by
 induction l with
 | nil=>simp[bsum]
 | cons c l ih=>simp only[List.cons_append,bsum,ih];omega
theorem Zag (h:Z1) (a:Int) (l m:List Zl):msum h a (l++m)=msum h a l+msum h a m:=by
 induction l with
 | nil=>simp[msum]
 | cons c l ih=>simp only[List.cons_append,msum,ih];omega
theorem bmsum (h:Z1) (a:Int) (l:List Zl) (hp:∀ c∈l,0<c.f1):0≤bsum h a l∧0≤msum h a l∧bsum h a l+msum h a l≤csum l:=by
 induction l with
 | nil=>simp[bsum,msum,csum]
 | cons c l ih =>
  have h1:=ih (fun d hd=>hp d (by simp[hd]));have h2:=hp c (by simp);rw[Z6b,bsum,msum];split
  ·omega
  ·split<;>omega
theorem below_l0 {h:Z1} (v:Z0l h) (f:Fits h) (a:Int):∀ (suf pre:List Zl) (i:Int),cells h=pre++suf→i=(pre.length:Int) →
  Z1g.l0 h a (cells h) (bsum h a pre) (msum h a pre) i=some (bsum h a (cells h),msum h a (cells h)):=by
 have hl:=Z8d v;have hs:=Z8c v f;have fc:=f.count;intro suf
 induction suf with
 | nil=>intro pre i h1 hi;rw[Z1g.l0,if_neg (by rw[h1];simp[hi]),h1,List.append_nil]
 | cons x suf ih =>
  intro pre i h1 hi';have hlen:((cells h).length:Int)=pre.length+(suf.length+1):=by rw[h1];simp
  have hx:=Z4c v x (by rw[h1];simp);have hok:=cells_ok v x (by rw[h1];simp);have hb:=bmsum h a pre (fun c hc=>Z4c v c (by rw[h1];simp[hc]));have hsuf:=Z6o (l:=suf) (fun c hc=>Z4c v c (by rw[h1];simp[hc]));have hsum:csum (cells h)=csum pre+(x.f1+csum suf):=by rw[h1,Z4w,Z6b]
  have key:=ih (pre++[x]) (i+1) (by simp[h1]) (by simp;omega);rw[Zat,Zag] at key;simp only[bsum,msum,Int.add_zero] at key;have fc2:=fc.2;rw[Z1g.l0,if_pos (by simp;omega),Z0a h1 hi',sb,ends_eq v hok,sb]
  try dsimp only
  rw[Ze (n:=i+1) (by omega) (by omega),Z23 (n:=bsum h a pre+x.f1) (by omega) (by omega),Z23 (n:=msum h a pre+x.f1) (by omega) (by omega)];by_cases c1:hi h x≤a
  ·rw[if_pos (by simpa using c1),sb]
   try dsimp only
   rw[if_pos c1,if_pos c1] at key;rw[Int.add_zero] at key;exact key
  ·rw[if_neg (by simpa using c1)]
   rw[if_neg c1,if_neg c1] at key;by_cases c2:lo h x<a
   ·rw[if_pos (by simpa using c2),sb,sb]
    try dsimp only
    rw[if_pos c2] at key;rw[Int.add_zero] at key;exact key
   ·rw[if_neg (by simpa using c2),sb,sb]
    try dsimp only
    rw[if_neg c2] at key;rw[Int.add_zero,Int.add_zero] at key;exact key
def Z2v (p:Zx):Prop:=(p.f0=0∧p.f1=0)∨((p.f0=1∨p.f0 = -1) ∧ -262144<p.f1∧p.f1≤262144)
def spt (p:Zx):Int:=if p.f0>0 then 1048576+p.f1 else if p.f0<0 then -1048576-p.f1 else 0
theorem place_cond (p:Zx):((if(decide (p.f0<(-1)))=true then(some true) else(if(decide (p.f0>(1:Int)))=true then(some true) else(if(p.f0 != (0:Int))=true then(if(decide (p.f1≤(-262144)))=true then(some true) else(if(decide (p.f1>(262144:Int)))=true then(some true) else(if(p.f0==(0:Int))=true then(some (p.f1 != (0:Int))) else(some false)))) else(if(p.f0==(0:Int))=true then(some (p.f1 != (0:Int))) else(some false))))):Option (Bool))=some (decide (¬ Z2v p)):=by
 by_cases h1:p.f0 < -1
 ·rw[if_pos (by simpa using h1),decide_eq_true (by unfold Z2v;omega)]
 rw[if_neg (by simpa using h1)];by_cases h2:p.f0>1
 ·rw[if_pos (by simpa using h2),decide_eq_true (by unfold Z2v;omega)]
 rw[if_neg (by simpa using h2)];by_cases h3:p.f0=0
 ·rw[if_neg (by simp[h3]),if_pos (by simp[h3])]
  by_cases h4:p.f1=0
  ·rw[decide_eq_false (by unfold Z2v;omega)];simp[h4]
  ·rw[decide_eq_true (by unfold Z2v;omega)];simp[h4]
 rw[if_pos (by simpa using h3)];by_cases h4:p.f1 ≤ -262144
 ·rw[if_pos (by simpa using h4),decide_eq_true (by unfold Z2v;omega)]
 rw[if_neg (by simpa using h4)];by_cases h5:p.f1>262144
 ·rw[if_pos (by simpa using h5),decide_eq_true (by unfold Z2v;omega)]
 rw[if_neg (by simpa using h5),if_neg (by simpa using h3),decide_eq_false (by unfold Z2v;omega)]
theorem spot_eq {p:Zx} (hp:Z2v p):Z4u.f p=some (spt p):=by
 unfold Z4u.f spt;unfold Z2v at hp;by_cases h1:p.f0>0
 ·rw[if_pos (by simpa using h1),if_pos h1,Ze (by omega) (by omega)]
 rw[if_neg (by simpa using h1),if_neg h1];by_cases h2:p.f0<0
 ·rw[if_pos (by simpa using h2),if_pos h2,Ze (by omega) (by omega)]
 rw[if_neg (by simpa using h2),if_neg h2]
def p0:Zb:=⟨0,0,0⟩
theorem below_eq {h:Z1} (v:Z0l h) (f:Fits h) (p:Zx):Z1g.f h p=some (if ¬ Z2v p then(p0,1) else if h.f4=0 then(p0,30) else(⟨bsum h (spt p) (cells h),msum h (spt p) (cells h),h.f4⟩,0)):=by
 unfold Z1g.f;rw[place_cond,sb];by_cases hp:Z2v p
 case neg=>rw[if_pos (by simpa using hp),if_pos hp];rfl
 rw[if_neg (by simpa using hp),if_neg (not_not_intro hp)];by_cases h0:h.f4=0
 ·rw[if_pos (by simpa using h0),if_pos h0];rfl
 rw[if_neg (by simpa using h0),if_neg h0];have lp:=v.pos.len;have ln:=v.neg.len;rw[spot_eq hp,sb,order_eq h (by omega) (by omega),sb,show Z1g.l0 h (spt p) (cells h) 0 0 0=_ from below_l0 v f (spt p) (cells h) [] 0 rfl rfl,sb]
def wsum (l:List Z0) (w:Int→Int):Int:=(l.map (fun b=>b.f1*w b.f0)).sum
theorem Z7z (b:Z0) (l:List Z0) (w:Int→Int):wsum (b::l) w=b.f1*w b.f0+wsum l w:=by simp[wsum]
theorem wsum_append (a b:List Z0) (w:Int→Int):wsum (a++b) w=wsum a w+wsum b w:=by simp[wsum]
theorem wsum_split (l:List Z0) (i:Int) (w:Int→Int):wsum l w=tot l i*w i+wsum (l.filter (fun b=>decide (b.f0≠i))) w:=by
 induction l with
 | nil=>simp[wsum,tot]
 | cons b l ih =>
  rw[Z7z,ih,tot];by_cases h:b.f0=i
  ·subst h;simp[Int.add_mul];omega
  ·rw[if_neg h,List.filter_cons_of_pos (by simpa using h),Z7z,Int.zero_add];omega
theorem Z63 (l:List Z0) (p:Int→Bool) (i:Int):tot (l.filter (fun b=>p b.f0)) i=if p i=true then tot l i else 0:=by
 induction l with
 | nil=>simp[tot]
 | cons b l ih =>
  by_cases h:p b.f0=true
  ·rw[List.filter_cons_of_pos (by simpa using h),tot,ih,tot]
   by_cases e:b.f0=i
   ·subst e;simp[h]
   ·simp[e]
  ·rw[List.filter_cons_of_neg (by simpa using h),ih,tot]
   by_cases e:b.f0=i
   ·subst e;simp[h]
   ·simp[e]
theorem wsum_zero:∀ (n:Nat) (l:List Z0),l.length≤n→(∀ i,tot l i=0)→∀ w,wsum l w=0:=by
 intro n
 induction n with
 | zero =>
  intro l hn _ w;obtain rfl:l=[]:=List.length_eq_zero_iff.1 (by omega);rfl
 | succ n ih =>
  intro l hn h w;cases l with
  | nil=>rfl
  | cons b l =>
   rw[wsum_split _ b.f0,h,Int.zero_mul,Int.zero_add];refine ih _ ?_ (fun i => ?_) w
   ·rw[List.filter_cons_of_neg (by simp)]
    have:=List.length_filter_le (fun b':Z0=>decide (b'.f0≠b.f0)) l;simp only[List.length_cons] at hn;omega
   ·have:=Z63        (b::l) (fun j=>decide (j≠b.f0)) i
    rw[this,h];simp
def negl (l:List Z0):List Z0:=l.map (fun b=>⟨b.f0,-b.f1⟩)
theorem Z80 (l:List Z0) (i:Int):tot (negl l) i = - tot l i:=by
 induction l with
 | nil=>rfl
 | cons b l ih=>simp only[negl,List.map_cons,tot] at *;rw[ih];split<;>omega
theorem Z6r (l:List Z0) (w:Int→Int):wsum (negl l) w = - wsum l w:=by
 induction l with
 | nil=>rfl
 | cons b l ih=>rw[negl,List.map_cons,Z7z,Z7z];rw[negl] at ih;rw[ih];simp[Int.neg_mul];omega
theorem wsum_congr {l l':List Z0} (h:∀ i,tot l i=tot l' i) (w:Int→Int):wsum l w=wsum l' w:=by
 have:=wsum_zero _ (l++negl l') (Nat.le_refl _) (fun i=>by rw[Z19,Z80,h];omega) w;rw[wsum_append,Z6r] at this;omega
theorem Z51 (l:List Z0):cnt l=wsum l (fun _=>1):=by simp[cnt,wsum]
theorem Z3z {l l':List Z0} (h:∀ i,tot l i=tot l' i):cnt l=cnt l':=by rw[Z51,Z51,wsum_congr h]
theorem Z8o {l:List Z0} (h:Nn l) (i:Int):tot l i≤cnt l:=by
 induction l with
 | nil=>simp[tot,cnt]
 | cons b l ih =>
  have:=h b (by simp);have h2:Nn l:=fun y hy=>h y (by simp[hy]);have:=ih h2;have:=Zs h2;rw[tot,Z4d];split<;>omega
theorem Z6c (l:List Z0) (p:Z0→Bool):cnt (l.filter p)+cnt (l.filter (fun b => !p b))=cnt l:=by
 induction l with
 | nil=>rfl
 | cons b l ih =>
  cases h:p b with
  | true=>rw[List.filter_cons_of_pos h,List.filter_cons_of_neg (by simp[h]),Z4d,Z4d];omega
  | false=>rw[List.filter_cons_of_neg (by simp[h]),List.filter_cons_of_pos (by simp[h]),Z4d,Z4d];omega
structure Bs (s z:Int) (l:List Z0):Prop where
 len:l.length≤5000
 ok:∀ b∈l,InS s b.f0∧0≤b.f1∧z≤(b.f0-1)*stp s
theorem Bs.nn {s z:Int} {l:List Z0} (h:Bs s z l):Nn l:=fun b hb=>(h.ok b hb).2.1
theorem le_cnt {l:List Z0} (h:Nn l) {b:Z0} (hb:b∈l):b.f1≤cnt l:=Int.le_trans (tot_mem h hb) (Z8o h _)
theorem Z6s {s z:Int} {l:List Z0} (h:Bs s z l) (ht:cnt l<18446744073709551616) :
  ∃ o,Z15.f l=some (o,0)∧Z3b o∧(∀ i,tot o i=tot l i)∧(∀ b∈o,BOk s z b)∧(∀ b∈o,U64 b.f1)∧o.length≤l.length∧cnt o=cnt l:=by
 have hl:=h.len;rcases Za3 l (by omega) (fun b hb=>⟨h.nn b hb,by have:=le_cnt h.nn hb;omega⟩) with ⟨o,e,h1,h2,h3,h4,h5⟩ | ⟨e,i,h1⟩
 ·refine⟨o,e,h1,h2,fun b hb => ?_,h3,h5,Z3z       h2⟩
  obtain⟨p,hp,e⟩:=h4 b hb;have:=h.ok p hp;exact⟨e ▸ this.1,h1.pos b hb,e ▸ this.2.2⟩
 ·have:=Z8o h.nn i;omega
theorem Zak {s i:Int} (h:InS s i):I64 i:=by have:=Z3g h;constructor<;>omega
theorem Z5i (g:Z1) (p n:List Z0) (hk:g.f0=0∨g.f0=1) (hs:Z0v g.f1) (hz:g.f2 = -524288∨(-262144<g.f2∧g.f2≤262144)) (h3:0≤g.f3) (h5:I64 g.f5)
  (hp:Bs g.f1 g.f2 p) (hn:Bs g.f1 g.f2 n) (ht:cnt p+cnt n+g.f3<18446744073709551616) (hl:∀ o,Z3b o→(((∀ i,tot o i=tot p i)∧o.length≤p.length)∨((∀ i,tot o i=tot n i)∧o.length≤n.length))→o.length≤512) :
  ∃ r,Z1p.f g p n=some (r,0)∧Z0l r∧Fits r∧r.f0=g.f0∧r.f1=g.f1∧r.f2=g.f2∧r.f3=g.f3∧r.f5=g.f5∧(∀ i,tot r.f6 i=tot p i)∧(∀ i,tot r.f7 i=tot n i)∧r.f4=cnt p+cnt n+g.f3:=by
 have np:=Zs hp.nn;have nn:=Zs hn.nn;obtain⟨o,e1,c1,t1,b1,u1,l1,q1⟩:=Z6s hp (by omega);obtain⟨o2,e2,c2,t2,b2,u2,l2,q2⟩:=Z6s hn (by omega);have hlp:=hp.len;have hln:=hn.len;have htot:=total3 o o2 g.f3 (by omega) (by omega) u1 u2 ⟨h3,by omega⟩;rw[q1,q2,if_pos ht] at htot;have hf:Fits (⟨g.f0,g.f1,g.f2,g.f3,cnt p+cnt n+g.f3,g.f5,o,o2⟩:Z1) :=
  ⟨by rcases hk with h | h<;>rw[h]<;>constructor<;>omega,by have:=hs.1;have:=hs.2;constructor<;>simp<;>omega,by rcases hz with h | h<;>constructor<;>simp<;>omega,⟨h3,by simp;omega⟩,⟨by simp;omega,ht⟩,h5,
   fun b hb=>⟨Zak (b1 b hb).ins,u1 b hb⟩,fun b hb=>⟨Zak (b2 b hb).ins,u2 b hb⟩⟩
 have hv:Z0l (⟨g.f0,g.f1,g.f2,g.f3,cnt p+cnt n+g.f3,g.f5,o,o2⟩:Z1) :=
  ⟨hk,hs,hz,⟨hl o c1 (.inl ⟨t1,l1⟩),b1,c1.up⟩,⟨hl o2 c2 (.inr ⟨t2,l2⟩),b2,c2.up⟩,by simp only[q1,q2];exact ht,by simp only[q1,q2]⟩
 refine⟨_,?_,hv,hf,rfl,rfl,rfl,rfl,rfl,t1,t2,rfl⟩;unfold Z1p.f;rw[e1,e2,sb,sb,if_neg (by simp),htot,sb,if_neg (by simp),check_T _ hf hv,sb,if_neg (by simp)]
def Z3a (s a:Int) (l:List Z0):Prop:=∃ b∈l,(b.f0-1)*stp s<a∧a<b.f0*stp s
def cg (s a:Int):Int:=-((-a) / stp s)*stp s
theorem cg_eq {s a i:Int} (h1:(i-1)*stp s<a) (h2:a≤i*stp s):cg s a=i*stp s:=by
 have hp:=Z4j s;unfold cg;generalize stp s=st at *;have : -((-a) / st)=i:=by
  have e1:=Int.ediv_mul_le (-a) (show st≠0 by omega);have e2:=Int.lt_ediv_add_one_mul_self (-a) hp;generalize (-a) / st=q at *;rw[Int.add_mul] at e2;rw[Int.sub_mul] at h1;have a1 : -q*st<(i+1)*st:=by rw[Int.neg_mul,Int.add_mul];omega
  have a2:(i-1)*st < -q*st:=by rw[Int.neg_mul,Int.sub_mul];omega
  have b1:=Int.lt_of_mul_lt_mul_right a1 (by omega);have b2:=Int.lt_of_mul_lt_mul_right a2 (by omega);omega
 rw[this]
theorem edge_l0 (h:Z1) (l:List Z0) (a:Int) (hs:Z0v h.f1) (hl:l.length<1000000000) (hi:∀ b∈l,InS h.f1 b.f0):∀ (suf pre:List Z0) (i:Int),l=pre++suf→i=(pre.length:Int) →
  Z26.l0 h l a i=some (if Z3a h.f1 a suf then .inl (cg h.f1 a) else .inr ()):=by
 intro suf
 induction suf with
 | nil =>
  intro pre i h1 hi0;subst h1;rw[Z26.l0,if_neg (by simp[hi0]),if_neg (by simp[Z3a])]
 | cons x suf ih =>
  intro pre i h1 hi0;have hx:=hi x (by rw[h1];simp);have hlen:(l.length:Int)=pre.length+(suf.length+1):=by rw[h1];simp
  rw[Z26.l0,if_pos (by simp;omega),Z0a h1 hi0,sb,low_T hs hx,sb,Z9r hs hx,sb,ifand,sb,sb];by_cases hc:(x.f0-1)*stp h.f1<a∧a<x.f0*stp h.f1
  ·rw[if_pos (by simpa using hc),if_pos ⟨x,by simp,hc⟩,cg_eq hc.1 (by omega)]
  ·rw[if_neg (by simpa using hc),Ze     (by omega) (by omega),ih (pre++[x]) (i+1) (by simp[h1]) (by simp;omega)]
   have:Z3a h.f1 a (x::suf)↔Z3a h.f1 a suf:=by
    constructor
    ·rintro⟨b,hb,h⟩
     rcases List.mem_cons.1 hb with rfl | hb
     ·exact absurd h hc
     ·exact⟨b,hb,h⟩
    ·rintro⟨b,hb,h⟩;exact⟨b,by simp[hb],h⟩
   by_cases hst:Z3a h.f1 a suf
   ·rw[if_pos hst,if_pos (this.2 hst)]
   ·rw[if_neg hst,if_neg (fun q=>hst (this.1 q))]
theorem edge_eq (h:Z1) (l:List Z0) (a:Int) (hs:Z0v h.f1) (hl:l.length<1000000000) (hi:∀ b∈l,InS h.f1 b.f0) :
  Z26.f h l a=some (if Z3a h.f1 a l then cg h.f1 a else a):=by
 unfold Z26.f;rw[edge_l0 h l a hs hl hi l [] 0 rfl rfl,sb];by_cases hst:Z3a h.f1 a l
 ·rw[if_pos hst,if_pos hst]
 ·rw[if_neg hst,if_neg hst]
abbrev Zb1 (s a:Int) (i:Int):Bool:=decide (a<i*stp s)
abbrev Z4s (s a:Int) (l:List Z0):List Z0:=l.filter (fun b=>Zb1 s a b.f0)
abbrev Z5g (s a:Int) (l:List Z0):List Z0:=l.filter (fun b => !Zb1 s a b.f0)
theorem keep_l0 (l:List Z0) (c0 s c2 c4 c5:Int) (c6 c7:List Z0) (a:Int) (hs:Z0v s) (hl:l.length<1000000) (hi:∀ b∈l,InS s b.f0) (hU:∀ b∈l,0≤b.f1):∀ (suf pre:List Z0) (z:Int) (o:List Z0) (i:Int),l=pre++suf→i=(pre.length:Int)→0≤z→z+cnt suf<18446744073709551616→o.length≤pre.length →
  Z00.l0 l c0 s c2 c4 c5 c6 c7 a z o i=some (o++Z4s s a suf,z+cnt (Z5g s a suf)):=by
 intro suf
 induction suf with
 | nil =>
  intro pre z o i h1 hi0 _ _ _;subst h1;rw[Z00.l0,if_neg (by simp[hi0])];simp[cnt]
 | cons x suf ih =>
  intro pre z o i h1 hi0 h0 hz ho;have hx:=hi x (by rw[h1];simp);have hx1:=hU x (by rw[h1];simp);have hn:0≤cnt suf:=Zs (fun b hb=>hU b (by rw[h1];simp[hb]));have hlen:(l.length:Int)=pre.length+(suf.length+1):=by rw[h1];simp
  rw[Z4d] at hz;rw[Z00.l0,if_pos (by simp;omega),Z0a h1 hi0,sb,Z9r hs hx,sb,Ze (by omega) (by omega),Z50 (a:=z) (b:=x.f1) ⟨h0,by omega⟩ ⟨hx1,by omega⟩];by_cases hc:a<x.f0*stp s
  ·rw[if_pos (by simpa using hc),chkB (by simp;omega),sb]
   simp only[];rw[ih (pre++[x]) z (o++[x]) (i+1) (by simp[h1]) (by simp;omega) h0 (by omega) (by simp;omega)];simp[hc]
  ·rw[if_neg (by simpa using hc),if_pos (by omega),sb,sb]
   simp only[];rw[ih (pre++[x]) (z+x.f1) o (i+1) (by simp[h1]) (by simp;omega) (by omega) (by omega) (by simp;omega)];rw[show Z4s s a (x::suf)=Z4s s a suf from List.filter_cons_of_neg (by simpa using hc),show Z5g s a (x::suf)=x::Z5g s a suf from List.filter_cons_of_pos (by simpa using hc),Z4d,Int.add_assoc]
theorem keep_eq (l:List Z0) (c0 s c2 z c4 c5:Int) (c6 c7:List Z0) (a:Int) (hs:Z0v s) (hl:l.length<1000000) (hi:∀ b∈l,InS s b.f0) (hU:∀ b∈l,0≤b.f1) (h0:0≤z) (hz:z+cnt l<18446744073709551616) :
  Z00.f l c0 s c2 z c4 c5 c6 c7 a=some (Z4s s a l,z+cnt (Z5g s a l)):=by
 unfold Z00.f;rw[keep_l0 l c0 s c2 c4 c5 c6 c7 a hs hl hi hU l [] z [] 0 rfl rfl h0 hz (Nat.le_refl _),sb];simp
noncomputable def zAt (s a:Int) (p n:List Z0):Int:=if Z3a s a p∨Z3a s a n then cg s a else a
theorem strad_lt {s a:Int} {l:List Z0} (h:Z3a s a l):a<cg s a:=by
 obtain⟨b,hb,h1,h2⟩:=h;rw[cg_eq h1 (by omega)];exact h2
theorem zAt_max (s a:Int) (p n:List Z0):(if(if Z3a s a n then cg s a else a)>(if Z3a s a p then cg s a else a) then(if Z3a s a n then cg s a else a) else(if Z3a s a p then cg s a else a))=zAt s a p n:=by
 unfold zAt;by_cases h1:Z3a s a p
 ·have:=strad_lt h1
  by_cases h2:Z3a s a n<;>simp[h1,h2];omega
 ·by_cases h2:Z3a   s a n
  ·have:=strad_lt h2
   simp[h1,h2];omega
  ·simp[h1,h2]
theorem zAt_le (s a:Int) (p n:List Z0):a≤zAt s a p n:=by
 unfold zAt;split
 ·rename_i h;rcases h with h | h<;>exact Int.le_of_lt (strad_lt h)
 ·exact Int.le_refl _
structure Cs (s:Int) (l:List Z0):Prop where
 len:l.length≤5000
 ins:∀ b∈l,InS s b.f0
 pos:∀ b∈l,0<b.f1
theorem Cs.nn {s:Int} {l:List Z0} (h:Cs s l):Nn l:=fun b hb=>Int.le_of_lt (h.pos b hb)
theorem kept_low {s a:Int} {p n l:List Z0} (hl:l=p∨l=n) {b:Z0} (hb:b∈l) (h:zAt s a p n<b.f0*stp s):zAt s a p n≤(b.f0-1)*stp s:=by
 have hp:=Z4j s;unfold zAt at *;by_cases hc:Z3a s a p∨Z3a s a n
 ·rw[if_pos hc] at *
  unfold cg at *;have h1:=Int.lt_of_mul_lt_mul_right h (Int.le_of_lt hp);exact Int.mul_le_mul_of_nonneg_right (by omega) (Int.le_of_lt hp)
 ·rw[if_neg hc] at *
  by_cases h2:(b.f0-1)*stp s<a
  ·rcases hl with rfl | rfl
   ·exact absurd (.inl ⟨b,hb,h2,h⟩) hc
   ·exact absurd (.inr ⟨b,hb,h2,h⟩) hc
  ·omega
theorem zAt_range {s a:Int} {p n:List Z0} (hp:∀ b∈p,InS s b.f0) (hn:∀ b∈n,InS s b.f0) (ha:a = -524288∨(-262144<a∧a≤262144)):zAt s a p n = -524288∨(-262144<zAt s a p n∧zAt s a p n≤262144):=by
 unfold zAt;split
 ·rename_i h
  rcases h with ⟨b,hb,h1,h2⟩ | ⟨b,hb,h1,h2⟩
  ·rw[cg_eq h1 (by omega)];exact .inr (hp b hb)
  ·rw[cg_eq h1 (by omega)];exact .inr (hn b hb)
 ·exact ha
structure Swal (h:Z1) (p n:List Z0) (a:Int) (r:Z1):Prop where
 valid:Z0l r
 fits:Fits r
 kind:r.f0=h.f0
 schema:r.f1=h.f1
 zeroAt:r.f2=zAt h.f1 a p n
 zero:r.f3=h.f3+cnt (Z5g h.f1 (zAt h.f1 a p n) p)+cnt (Z5g h.f1 (zAt h.f1 a p n) n)
 sum:r.f5=h.f5
 tpos:∀ i,tot r.f6 i=if Zb1 h.f1 (zAt h.f1 a p n) i=true then tot p i else 0
 tneg:∀ i,tot r.f7 i=if Zb1 h.f1 (zAt h.f1 a p n) i=true then tot n i else 0
 count:r.f4=cnt p+cnt n+h.f3
theorem Z8p (h:Z1) (p n:List Z0) (a:Int) (hk:h.f0=0∨h.f0=1) (hs:Z0v h.f1) (ha:a = -524288∨(-262144<a∧a≤262144)) (h3:0≤h.f3) (h5:I64 h.f5) (hp:Cs h.f1 p) (hn:Cs h.f1 n) (hpl:p.length≤512) (hnl:n.length≤512)
  (ht:cnt p+cnt n+h.f3<18446744073709551616):∃ r,Z2y.f h p n a=some (r,0)∧Swal h p n a r:=by
 have c1:=Zs hp.nn;have c2:=Zs hn.nn;have d1:cnt (Z4s h.f1 (zAt h.f1 a p n) p)+cnt (Z5g h.f1 (zAt h.f1 a p n) p)=cnt p:=Z6c p _;have d2:cnt (Z4s h.f1 (zAt h.f1 a p n) n)+cnt (Z5g h.f1 (zAt h.f1 a p n) n)=cnt n:=Z6c n _;have e1:=Zs (l:=Z4s h.f1 (zAt h.f1 a p n) p) (fun b hb=>hp.nn b ((List.mem_filter.1 hb).1));have e2:=Zs (l:=Z4s h.f1 (zAt h.f1 a p n) n) (fun b hb=>hn.nn b ((List.mem_filter.1 hb).1));have e3:=Zs (l:=Z5g h.f1 (zAt h.f1 a p n) p) (fun b hb=>hp.nn b ((List.mem_filter.1 hb).1));have e4:=Zs (l:=Z5g h.f1 (zAt h.f1 a p n) n) (fun b hb=>hn.nn b ((List.mem_filter.1 hb).1));have hb:∀ l,(l=p∨l=n)→Cs h.f1 l→Bs h.f1 (zAt h.f1 a p n) (Z4s h.f1 (zAt h.f1 a p n) l):=fun l hl hc =>
  ⟨Nat.le_trans (List.length_filter_le _ _) hc.len,fun b hb=>by
   obtain⟨h1,h2⟩:=List.mem_filter.1 hb;exact⟨hc.ins b h1,Int.le_of_lt (hc.pos b h1),kept_low hl h1 (by simpa using h2)⟩⟩
 obtain⟨r,g1,g2,g3,g4,g5,g6,g7,g8,g9,g10,g11⟩:=Z5i (⟨h.f0,h.f1,zAt h.f1 a p n,h.f3+cnt (Z5g h.f1 (zAt h.f1 a p n) p)+cnt (Z5g h.f1 (zAt h.f1 a p n) n),h.f4,h.f5,h.f6,h.f7⟩:Z1)
  (Z4s h.f1 (zAt h.f1 a p n) p) (Z4s h.f1 (zAt h.f1 a p n) n) hk hs (zAt_range hp.ins hn.ins ha) (by simp;omega) h5 (hb p (.inl rfl) hp) (hb n (.inr rfl) hn) (by simp only;omega) (fun o ho hto=>by
   rcases hto with hto | hto
   ·exact Nat.le_trans hto.2 (Nat.le_trans (List.length_filter_le _ _) hpl)
   ·exact Nat.le_trans hto.2 (Nat.le_trans (List.length_filter_le _ _) hnl))
 refine⟨r,?_,⟨g2,g3,g4,g5,g6,g7,g8,fun i => ?_,fun i => ?_,?_⟩⟩
 ·have l1:=hp.len
  have l2:=hn.len;unfold Z2y.f;rw[edge_eq h p a hs (by omega) hp.ins,edge_eq h n a hs (by omega) hn.ins,sb,sb,zAt_max];rw[keep_eq p _ h.f1 _ h.f3 _ _ _ _ _ hs (by omega) hp.ins hp.nn h3 (by omega),sb,keep_eq n _ h.f1 _ _ _ _ _ _ _ hs (by omega) hn.ins hn.nn (by simp only;omega) (by simp only;omega),sb,g1];rfl
 ·rw[g9];exact Z63 p _ i
 ·rw[g10];exact Z63 n _ i
 ·rw[g11];simp only;omega
def rat (f t:Int):Int:=2 ^ (f-t).toNat
theorem rat_pos (f t:Int):0<rat f t:=Int.pow_pos (by omega)
theorem stp_rat {f t:Int} (h1:t≤f) (h2:f≤8):stp t=stp f*rat f t:=by
 unfold stp rat;rw[← Int.pow_add];congr 1;omega
def upI (f t i:Int):Int:=-((-i) / rat f t)
theorem upI_spec (f t i:Int):(upI f t i-1)*rat f t<i∧i≤upI f t i*rat f t:=by
 have hp:=rat_pos f t;unfold upI;generalize rat f t=r at *;have e1:=Int.ediv_mul_le (-i) (show r≠0 by omega);have e2:=Int.lt_ediv_add_one_mul_self (-i) hp;generalize (-i) / r=q at *;rw[Int.add_mul] at e2;constructor
 ·rw[Int.sub_mul,Int.neg_mul];omega
 ·rw[Int.neg_mul];omega
theorem upI_in {f t i:Int} (hf:Z0v f) (ht:Z0v t) (h:t≤f) (hi:InS f i):InS t (upI f t i):=by
 obtain⟨h3,h4⟩:=upI_spec f t i;have hst:=stp_rat h hf.2;have hp:=Z4j f;have hd:=stp_dvd ht;have hr:=rat_pos f t;obtain⟨i1,i2⟩:=hi;constructor
 ·rw[hst,Int.mul_comm (stp f),← Int.mul_assoc]
  have:=Int.mul_le_mul_of_nonneg_right h4 (Int.le_of_lt hp);omega
 ·
  generalize hQ:262144 / stp t=Q at hd;have hi3:i*stp f≤Q*rat f t*stp f:=by rw[Int.mul_assoc,Int.mul_comm (rat f t),← hst,hd];exact i2
  have hi4:=Int.le_of_mul_le_mul_right hi3 hp;have:=Int.lt_of_mul_lt_mul_right (show(upI f t i-1)*rat f t<Q*rat f t by omega) (Int.le_of_lt hr);have:=Int.mul_le_mul_of_nonneg_right (show upI f t i≤Q by omega) (Int.le_of_lt (Z4j t));omega
theorem to_eq {f t i:Int} (hf:Z0v f) (ht:Z0v t) (h:t≤f) (hi:InS f i):Z5l.f f t i=some (upI f t i,0):=by
 have hs:=Z3g hi;have h1:=hf.1;have h2:=hf.2;have h3:=ht.1;have h4:=ht.2;unfold Z5l.f Z87.f;rw[Z5z hf,sb,if_neg (by simp),Z5z ht,sb,if_neg (by simp),sb,if_neg (by simp;omega),in_T hf,sb,if_neg (by simp[hi]),chkB (Z9s _).1,sb];rw[Ze (n:=f-t) (by omega) (by omega),Z23 (by omega) (by omega),Ze (n:=0-i) (by omega) (by omega)];have e:min (f-t).toNat 64=(f-t).toNat:=by omega
 rw[e,Int.fdiv_eq_ediv_of_nonneg _ (Int.le_of_lt (Int.pow_pos (by omega)))];have:(0-i) / 2 ^ (f-t).toNat = -upI f t i:=by unfold upI rat;rw[Int.zero_sub];omega
 rw[this];have hj:=Z3g (upI_in hf ht h hi);rw[Ze (by omega) (by omega)];congr 2;omega
def Z57 (f t:Int) (l:List Z0):List Z0:=l.map (fun b=>⟨upI f t b.f0,b.f1⟩)
theorem Z5p (f t:Int) (l:List Z0):(Z57 f t l).length=l.length:=by simp[Z57]
theorem Z4l (f t:Int) (l:List Z0):cnt (Z57 f t l)=cnt l:=by simp[cnt,Z57,Function.comp_def]
theorem down_l0 (l:List Z0) (f t:Int) (hf:Z0v f) (ht:Z0v t) (h:t≤f) (hl:l.length<1000000) (hi:∀ b∈l,InS f b.f0):∀ (suf pre o:List Z0) (i:Int),l=pre++suf→i=(pre.length:Int)→o.length=pre.length →
  Z27.l0 l f t o i=some (o++Z57 f t suf):=by
 intro suf
 induction suf with
 | nil =>
  intro pre o i h1 hi0 _;subst h1;rw[Z27.l0,if_neg (by simp[hi0])];simp[Z57]
 | cons x suf ih =>
  intro pre o i h1 hi0 ho;have hx:=hi x (by rw[h1];simp);have hlen:(l.length:Int)=pre.length+(suf.length+1):=by rw[h1];simp
  rw[Z27.l0,if_pos (by simp;omega),Z0a h1 hi0,sb,to_eq hf ht h hx,sb,chkB (by simp;omega),Ze (by omega) (by omega)];rw[ih (pre++[x]) _ (i+1) (by simp[h1]) (by simp;omega) (by simp;omega)];simp[Z57]
theorem down_eq (l:List Z0) (f t:Int) (hf:Z0v f) (ht:Z0v t) (h:t≤f) (hl:l.length<1000000) (hi:∀ b∈l,InS f b.f0):Z27.f l f t=some (Z57 f t l):=by
 unfold Z27.f;rw[down_l0 l f t hf ht h hl hi l [] [] 0 rfl rfl rfl];simp
def h0:Z1:=⟨0,0,0,0,0,0,[],[]⟩
theorem Z48 {s z:Int} {l:List Z0} (h:Side s z l):Cs s l:=⟨by have:=h.len;omega,fun b hb=>(h.ok b hb).ins,fun b hb=>(h.ok b hb).pos⟩
theorem Zao {f t:Int} {l:List Z0} (hf:Z0v f) (ht:Z0v t) (h:t≤f) (hc:Cs f l):Cs t (Z57 f t l) :=
 ⟨by rw[Z5p];exact hc.len,fun b hb=>by
  obtain⟨x,hx,rfl⟩:=List.mem_map.1 hb;exact upI_in hf ht h (hc.ins x hx),fun b hb=>by
  obtain⟨x,hx,rfl⟩:=List.mem_map.1 hb;exact hc.pos x hx⟩
structure Cut (a:Z1) (s z:Int) (r:Z1):Prop where
 valid:Z0l r
 fits:Fits r
 kind:r.f0=a.f0
 schema:r.f1=s
 zeroAt:r.f2=z
 count:r.f4=a.f4
 sum:r.f5=a.f5
 tpos:∀ i,tot r.f6 i=if Zb1 s z i=true then tot (Z57 a.f1 s a.f6) i else 0
 tneg:∀ i,tot r.f7 i=if Zb1 s z i=true then tot (Z57 a.f1 s a.f7) i else 0
theorem hist_ext {a b:Z1} (e0:a.f0=b.f0) (e1:a.f1=b.f1) (e2:a.f2=b.f2) (e3:a.f3=b.f3) (e4:a.f4=b.f4) (e5:a.f5=b.f5) (e6:a.f6=b.f6) (e7:a.f7=b.f7):a=b:=by
 cases a;cases b;simp_all
theorem Down_eq (a:Z1) (s:Int) (hv:Z0l a) (hf:Fits a) (hs:Z0v s) (hle:s≤a.f1) :
  ∃ r,Z2d.f a s=some (r,0)∧Cut a s (zAt s a.f2 (Z57 a.f1 s a.f6) (Z57 a.f1 s a.f7)) r:=by
 have l1:=hv.pos.len;have l2:=hv.neg.len;have h1:=hv.count;have h2:=hv.total;obtain⟨r,e,h⟩:=Z8p (⟨a.f0,s,a.f2,a.f3,a.f4,a.f5,a.f6,a.f7⟩:Z1) (Z57 a.f1 s a.f6) (Z57 a.f1 s a.f7) a.f2 hv.kind hs hv.zero hf.zero.1 hf.sum (Zao hv.schema hs hle (Z48 hv.pos)) (Zao hv.schema hs hle (Z48 hv.neg))
  (by rw[Z5p];exact l1) (by rw[Z5p];exact l2) (by rw[Z4l,Z4l];exact h2)
 refine⟨r,?_,⟨h.valid,h.fits,h.kind,h.schema,h.zeroAt,by rw[h.count,Z4l,Z4l];exact h1.symm,h.sum,h.tpos,h.tneg⟩⟩;unfold Z2d.f;rw[Z5z hs,sb,if_neg (by simp),sb,if_neg (by simp;omega),down_eq a.f6 a.f1 s hv.schema hs hle (by omega) (Z48 hv.pos).ins,down_eq a.f7 a.f1 s hv.schema hs hle (by omega) (Z48 hv.neg).ins,sb,sb,e];rfl
theorem Down_bad (a:Z1) (s:Int) (h:¬ (Z0v s∧s≤a.f1)):Z2d.f a s=some (h0,20):=by
 unfold Z2d.f;by_cases hs:Z0v s
 ·rw[Z5z hs,sb,if_neg (by simp),sb,if_pos (by simp;have:¬ s≤a.f1:=fun q=>h ⟨hs,q⟩;omega)];rfl
 ·rw[right_F hs,sb,if_pos (by simp),sb,if_pos rfl];rfl
theorem Z4m (a:Z1) (h1:a.f6.length<1000000000) (h2:a.f7.length<1000000000):Z22.f a=some a:=by
 unfold Z22.f;rw[Z90 _ h1,Z90 _ h2];rfl
theorem Z4x (a:Z1) (z:Int) (hv:Z0l a) (hf:Fits a) (hz : -262144<z∧z≤262144) (hlt:a.f2<z) :
  ∃ r,Z17.f a z=some (r,0)∧Swal a a.f6 a.f7 z r:=by
 obtain⟨r,e,h⟩:=Z8p a a.f6 a.f7 z hv.kind hv.schema (.inr hz) hf.zero.1 hf.sum (Z48 hv.pos) (Z48 hv.neg) hv.pos.len hv.neg.len hv.total;refine⟨r,?_,h⟩;unfold Z17.f;rw[if_neg (by simp;omega),if_neg (by simp;omega),if_neg (by simp;omega),sb,if_neg (by simp;omega),e];rfl
theorem Z47 (a:Z1) (hv:Z0l a):Z17.f a a.f2=some (a,0):=by
 have l1:=hv.pos.len;have l2:=hv.neg.len;unfold Z17.f;rw[if_neg (by simp),if_pos (by simp),Z4m a (by omega) (by omega)];rfl
theorem Zb4 (a:Z1) (z:Int) (h:z<a.f2∨(z≠a.f2∧¬ (-262144<z∧z≤262144))):Z17.f a z=some (h0,31):=by
 unfold Z17.f;by_cases h1:z<a.f2
 ·rw[if_pos (by simpa using h1)];rfl
 ·rw[if_neg (by simpa using h1)]
  have h2:=h.resolve_left h1;rw[if_neg (by simpa using h2.1)];have:((if(decide (z≤(-262144)))=true then(some true) else(some (decide (z>(262144:Int))))):Option (Bool))=some true:=by
   by_cases h3:z ≤ -262144
   ·rw[if_pos (by simpa using h3)]
   ·rw[if_neg (by simpa using h3)];simp;omega
  rw[this,sb,if_pos rfl];rfl
theorem Cut.widen {a r r':Z1} {s z z':Int} (h:Cut a s z r) (hz:z≤z') (hw:Swal r r.f6 r.f7 z' r'):Cut a s (zAt s z' r.f6 r.f7) r':=by
 have hle:=zAt_le s z' r.f6 r.f7;have hc:=h.valid.count;have key:∀ i (u v:Int),u=(if Zb1 s z i=true then v else 0)→(if Zb1 s (zAt s z' r.f6 r.f7) i=true then u else 0)=if Zb1 s (zAt s z' r.f6 r.f7) i=true then v else 0:=by
  intro i u v hu;by_cases h1:zAt s z' r.f6 r.f7<i*stp s
  ·simp only[decide_eq_true_eq]
   rw[if_pos h1,if_pos h1,hu];simp only[decide_eq_true_eq];rw[if_pos (by omega)]
  ·simp only[decide_eq_true_eq];rw[if_neg h1,if_neg h1]
 have hs:=h.schema;refine⟨hw.valid,hw.fits,hw.kind.trans h.kind,hw.schema.trans hs,?_,?_,hw.sum.trans h.sum,fun i => ?_,fun i => ?_⟩
 ·rw[hw.zeroAt,hs]
 ·rw[hw.count,← h.count,hc]
 ·rw[hw.tpos i,hs];exact key i _ _ (h.tpos i)
 ·rw[hw.tneg i,hs];exact key i _ _ (h.tneg i)
theorem Z6i {s a:Int} {l:List Z0}:¬ Z3a s (cg s a) l:=by
 rintro⟨b,hb,h1,h2⟩;have hp:=Int.le_of_lt (Z4j s);unfold cg at *;have:=Int.lt_of_mul_lt_mul_right h1 hp;have:=Int.lt_of_mul_lt_mul_right h2 hp;omega
theorem zAt_no {s a:Int} {p n:List Z0} (h1:¬ Z3a s a p) (h2:¬ Z3a s a n):zAt s a p n=a:=by
 unfold zAt;rw[if_neg (by rintro(h | h)<;>contradiction)]
theorem zAt_or (s a:Int) (p n:List Z0):zAt s a p n=a∧¬ Z3a s a p∧¬ Z3a s a n∨zAt s a p n=cg s a:=by
 unfold zAt;by_cases h:Z3a s a p∨Z3a s a n
 ·exact .inr (if_pos h)
 ·exact .inl ⟨if_neg h,fun q=>h (.inl q),fun q=>h (.inr q)⟩
noncomputable def upto (k:Z8→Int) (y:Int) (q:Z8):Int:=if k q≤y then 1 else 0
structure Dn (h:Z1) (s:Int) (d:Z1):Prop where
 valid:Z0l d
 fits:Fits d
 schema:d.f1=s
 zeroAt:d.f2 = -524288
 count:d.f4=h.f4
 zero:d.f3=h.f3
 tpos:∀ i,tot d.f6 i=tot (Z57 h.f1 s h.f6) i
 tneg:∀ i,tot d.f7 i=tot (Z57 h.f1 s h.f7) i
def Z5q (N of:Int):Int:=if N % of=0 then N / of else N / of+1
theorem ceilD_le {N of k:Int} (h:0<of):Z5q N of≤k↔N≤k*of:=by
 have e:=Int.mul_ediv_add_emod N of;have m0:=Int.emod_nonneg N (show of≠0 by omega);have m1:=Int.emod_lt_of_pos N h;have key:∀ j:Int,j*of=of*j:=fun j=>Int.mul_comm _ _
 rw[key];unfold Z5q;split
 ·rename_i hz
  constructor
  ·intro hk
   have:=Int.mul_le_mul_of_nonneg_left hk (Int.le_of_lt h);omega
  ·intro hk
   exact Int.le_of_mul_le_mul_left (by omega:of*(N / of)≤of*k) h
 ·rename_i hz
  constructor
  ·intro hk
   have:=Int.mul_le_mul_of_nonneg_left hk (Int.le_of_lt h);rw[Int.mul_add,Int.mul_one] at this;omega
  ·intro hk
   have:N / of<k:=Int.lt_of_mul_lt_mul_left (a:=of) (by omega) (Int.le_of_lt h);omega
theorem ceilD_nonneg {N of:Int} (h:0<of) (hN:0≤N):0≤Z5q N of:=by
 have:0≤N / of:=Int.ediv_nonneg hN (by omega);unfold Z5q;split<;>omega
theorem ceil_eq {N of:Int} (h:0<of) (h2:of<18446744073709551616) (hN:0≤N) (hb:N / 18446744073709551616<of) (hc:Z5q N of<18446744073709551616):Z3k.f ⟨N / 18446744073709551616,N % 18446744073709551616⟩ of=some (Z5q N of,0):=by
 unfold Z3k.f;have q0:0≤N / of:=Int.ediv_nonneg hN (by omega);have eN:N / 18446744073709551616*18446744073709551616+N % 18446744073709551616=N:=by omega
 rw[if_neg (by simp;omega),sb,if_neg (by simp;omega),div64 h h2 (show 0≤N / 18446744073709551616 by omega) hb ⟨show 0≤N % 18446744073709551616 by omega,show N % 18446744073709551616<18446744073709551616 by omega⟩,sb]
 try dsimp only
 rw[eN];unfold Z5q at hc ⊢;by_cases hz:N % of=0
 ·rw[if_pos (by simpa using hz),if_pos hz]
 ·rw[if_neg (by simpa using hz),if_neg hz]
  rw[if_neg hz] at hc;rw[Z50 ⟨q0,by omega⟩ ⟨by decide,by decide⟩,if_pos hc,sb]
def mx1 (n:Int):Int:=if(1:Int)>n then 1 else n
structure Part (h:Z1) (part of:Int):Prop where
 ok:Z0z.f h part of=Z2p.f h (mx1 (Z5q (part*h.f4) of))
 lo:1≤mx1 (Z5q (part*h.f4) of)
 hi:mx1 (Z5q (part*h.f4) of)≤h.f4
theorem Zbc {h:Z1} (v:Z0l h) (f:Fits h) {part of:Int} (hp:U64 part) (ho:U64 of) (h0:0<of) (hle:part≤of) (hc:0<h.f4):Part h part of:=by
 have f4:=f.count;have f42:=f4.2;have hp0:=hp.1;have ho2:=ho.2;have hN:0≤part*h.f4:=Int.mul_nonneg hp0 (by omega);have hN2:part*h.f4≤h.f4*of:=by rw[Int.mul_comm];exact Int.mul_le_mul_of_nonneg_left hle (by omega)
 have hcl:Z5q (part*h.f4) of≤h.f4:=(ceilD_le h0).2 hN2;have hc0:=ceilD_nonneg h0 hN;have hb:part*h.f4 / 18446744073709551616<of:=by
  refine Int.ediv_lt_of_lt_mul (by decide) ?_;have:h.f4*of<18446744073709551616*of:=Int.mul_lt_mul_of_pos_right f42 h0;rw[Int.mul_comm of];omega
 refine⟨?_,by unfold mx1;split<;>omega,by unfold mx1;split<;>omega⟩;unfold Z0z.f;rw[if_neg (by simp;omega),sb,if_neg (by simp;omega),if_neg (by simp;omega),num_mul hp f4,sb,ceil_eq h0 ho2 hN hb (by omega),sb]
 try dsimp only
 rw[if_neg (by simp)];show(Z2p.f h (mx1 (Z5q (part*h.f4) of))>>=fun t1387=>some (t1387.1,t1387.2))=_;cases Z2p.f h (mx1 (Z5q (part*h.f4) of)) with
 | none=>rfl
 | some x=>rfl
theorem quant_ok {h:Z1} (v:Z0l h) (f:Fits h) {part of:Int} (hp:U64 part) (ho:U64 of) (h0:0<of) (hle:part≤of) (hc:0<h.f4) :
  ∃ c,pick (cells h) (mx1 (Z5q (part*h.f4) of))=some c∧c∈cells h∧Z0z.f h part of=some (c.f0,0):=by
 have P:=Zbc v f hp ho h0 hle hc;have f42:=f.count.2;have P1:=P.lo;have P2:=P.hi;rcases at_cases h v f (mx1 (Z5q (part*h.f4) of)) ⟨by omega,by omega⟩ with ⟨_,_,_,hh⟩ | ⟨_,_,c,pc,mc,ac⟩
 ·exact absurd ⟨P1,P2⟩ hh
 ·exact⟨c,pc,mc,P.ok.trans ac⟩
theorem ref_quant_l0 {h:Z1} (v:Z0l h) (f:Fits h) {part of:Int} (hp:U64 part) (ho:U64 of) (h0:0<of) (hle:part≤of) {c:Zl}:∀ (suf pre:List Zl) (i:Int),cells h=pre++suf→i=(pre.length:Int)→csum pre<mx1 (Z5q (part*h.f4) of)→pick suf (mx1 (Z5q (part*h.f4) of)-csum pre)=some c →
  Z0x.l0 of (part*h.f4 / 18446744073709551616,part*h.f4 % 18446744073709551616) ((cells h).map rc) (csum pre) i=some (.inl (rc c,0)):=by
 have hl:=Z8d v;have hs:=Z8c v f;have fc:=f.count;have fc2:=fc.2;have hN:0≤part*h.f4:=Int.mul_nonneg hp.1 fc.1;intro suf
 induction suf with
 | nil=>intro pre i h1 hi hlt hpk;simp[pick] at hpk
 | cons x suf ih =>
  intro pre i h1 hi hlt hpk;have hlen:((cells h).length:Int)=pre.length+(suf.length+1):=by rw[h1];simp
  have hx:=Z4c v x (by rw[h1];simp);have hpre:=Z6o (l:=pre) (fun c hc=>Z4c v c (by rw[h1];simp[hc]));have hsuf:=Z6o (l:=suf) (fun c hc=>Z4c v c (by rw[h1];simp[hc]));have hsum:csum (cells h)=csum pre+(x.f1+csum suf):=by rw[h1,Z4w,Z6b]
  have h2:(cells h).map rc=pre.map rc++rc x::suf.map rc:=by rw[h1];simp
  have e:u64.wrap (csum pre+(rc x).f3)=csum pre+x.f1:=Z23 (by show 0≤csum pre+x.f1;omega) (by show csum pre+x.f1<_;omega);rw[Z0x.l0,if_pos (by simp;omega),Z0a h2 (by simp[hi]),sb,e,ref_mul ho ⟨by omega,by omega⟩,sb]
  try dsimp only
  have hN1:0≤of*(csum pre+x.f1):=Int.mul_nonneg ho.1 (by omega);rw[ref_less _ _ _ _ ⟨by omega,by omega⟩ ⟨by omega,by omega⟩,sb];have e3:of*(csum pre+x.f1) / 18446744073709551616*18446744073709551616+of*(csum pre+x.f1) % 18446744073709551616=of*(csum pre+x.f1):=by omega
  have e4:part*h.f4 / 18446744073709551616*18446744073709551616+part*h.f4 % 18446744073709551616=part*h.f4:=by omega
  rw[e3,e4];have C:=ceilD_le (N:=part*h.f4) (of:=of) (k:=csum pre+x.f1) h0;rw[Int.mul_comm (csum pre+x.f1)] at C;unfold pick at hpk;by_cases q:mx1 (Z5q (part*h.f4) of)-csum pre≤x.f1
  ·rw[if_pos q] at hpk
   obtain rfl:=Option.some.inj hpk;have:Z5q (part*h.f4) of≤csum pre+x.f1:=by unfold mx1 at q;split at q<;>omega
   have:=C.1 this;rw[if_pos (by simp;omega)]
  ·rw[if_neg q] at hpk
   have:¬ Z5q (part*h.f4) of≤csum pre+x.f1:=by unfold mx1 at q;split at q<;>omega
   have:=fun t=>this (C.2 t);rw[if_neg (by simp;omega),Ze (by omega) (by omega)];have e5:csum pre+x.f1=csum (pre++[x]):=by rw[Z4w,Z6b];simp[csum]
   rw[e5];have e6:mx1 (Z5q (part*h.f4) of)-csum pre-x.f1=mx1 (Z5q (part*h.f4) of)-csum (pre++[x]):=by omega
   rw[e6] at hpk;exact ih (pre++[x]) _ (by simp[h1]) (by simp;omega) (by omega) hpk
theorem ref_quant {h:Z1} (v:Z0l h) (f:Fits h) {part of:Int} (hp:U64 part) (ho:U64 of) (h0:0<of) (hle:part≤of) (hc:0<h.f4) {c:Zl} (pc:pick (cells h) (mx1 (Z5q (part*h.f4) of))=some c) :
  Z0x.f h part of=some (rc c,0):=by
 have P:=Zbc v f hp ho h0 hle hc;have P1:=P.lo;have lp:=v.pos.len;have ln:=v.neg.len;unfold Z0x.f;rw[if_neg (by simp;omega),sb,if_neg (by simp;omega),if_neg (by simp;omega),ref_mul hp f.count,sb,Z99 h (by omega) (by omega),sb];rw[show Z0x.l0 of (part*h.f4 / 18446744073709551616,part*h.f4 % 18446744073709551616) ((cells h).map rc) 0 0=_ from ref_quant_l0 v f hp ho h0 hle (cells h) [] 0 rfl rfl (by simp[csum];omega) (by simpa[csum] using pc),sb]
theorem together_l0 (l:List Z0) (k:Int) (hl:l.length<1000000):∀ (suf pre:List Z0) (x:List Int) (i:Int),l=pre++suf→i=(pre.length:Int)→x.length≤pre.length →
  Z1f.l0 l k x i=some (x++(suf.filter (fun b=>decide (b.f0=k))).map (·.f1)):=by
 intro suf
 induction suf with
 | nil=>intro pre x i h1 hi _;subst h1;rw[Z1f.l0,if_neg (by simp[hi])];simp
 | cons b suf ih =>
  intro pre x i h1 hi hx;have hlen:(l.length:Int)=pre.length+(suf.length+1):=by rw[h1];simp
  rw[Z1f.l0,if_pos (by simp;omega),Z0a h1 hi,sb,Ze (by omega) (by omega)];by_cases h:b.f0=k
  ·rw[if_pos (by simpa using h),chkB (by simp;omega),sb,ih (pre++[b]) _ (i+1) (by simp[h1]) (by simp;omega) (by simp;omega)]
   simp[h]
  ·rw[if_neg (by simpa using h),sb,ih (pre++[b]) _ (i+1) (by simp[h1]) (by simp;omega) (by simp;omega)]
   simp[h]
theorem tot_sum (l:List Z0) (k:Int):((l.filter (fun b=>decide (b.f0=k))).map (·.f1)).sum=tot l k:=by
 induction l with
 | nil=>rfl
 | cons b l ih =>
  by_cases h:b.f0=k
  ·rw[List.filter_cons_of_pos (by simpa using h),List.map_cons,List.sum_cons,ih,tot,if_pos h]
  ·rw[List.filter_cons_of_neg (by simpa using h),ih,tot,if_neg h];omega
theorem together_eq (l:List Z0) (k:Int) (hl:l.length<1000000) (hn:Nn l) (ht:cnt l<18446744073709551616):Z1f.f l k=some (tot l k,0):=by
 unfold Z1f.f;have h1:=Z8o hn k;rw[together_l0 l k hl l [] [] 0 rfl rfl (Nat.le_refl _),sb,List.nil_append,ref_add _ (by
  rw[List.length_map];have:=List.length_filter_le (fun b:Z0=>decide (b.f0=k)) l;omega) (by
  intro x hx;obtain⟨b,hb,rfl⟩:=List.mem_map.1 hx;have hb:=(List.mem_filter.1 hb).1;exact⟨hn b hb,by have:=le_cnt hn hb;omega⟩),sb,tot_sum,if_pos (by omega)]
def Cand (hv:Bool) (last:Int) (b:Z0):Prop:=hv=false∨last<b.f0
structure Least (hv:Bool) (last:Int) (l:List Z0) (fd:Bool) (nx:Int):Prop where
 none:fd=false→∀ b∈l,¬ Cand hv last b
 some:fd=true→(∃ b∈l,Cand hv last b∧b.f0=nx)∧∀ b∈l,Cand hv last b→nx≤b.f0
theorem tidy_l1 (l o:List Z0) (hv:Bool) (last:Int) (hl:l.length<1000000):∀ (suf pre:List Z0) (fd:Bool) (nx i:Int),l=pre++suf→i=(pre.length:Int)→Least hv last pre fd nx →
  ∃ fd' nx',Z0y.l1 l o hv last fd nx i=some (fd',nx')∧Least hv last l fd' nx':=by
 intro suf
 induction suf with
 | nil=>intro pre fd nx i h1 hi hL;rw[List.append_nil] at h1;subst h1;rw[Z0y.l1,if_neg (by simp[hi])];exact⟨_,_,rfl,hL⟩
 | cons b suf ih =>
  intro pre fd nx i h1 hi hL;have hlen:(l.length:Int)=pre.length+(suf.length+1):=by rw[h1];simp
  have e1:l=(pre++[b])++suf:=by simp[h1]
  have e2:i+1=((pre++[b]).length:Int):=by simp;omega
  have hc:((if(!hv)=true then(if(!fd)=true then(some true) else((at? l i)>>=fun b1857=>some (decide (b1857.f0<nx)))) else((at? l i)>>=fun b1860=>if(decide (b1860.f0>last))=true then(if(!fd)=true then(some true) else(some (decide (b1860.f0<nx)))) else(some false))):Option (Bool))=some (decide (Cand hv last b∧(fd=false∨b.f0<nx))):=by
   rw[Z0a h1 hi,sb,sb];unfold Cand;cases hv<;>cases fd<;>simp
   ·by_cases h:last<b.f0<;>simp[h]
   ·by_cases h:last<b.f0<;>simp[h]
  rw[Z0y.l1,if_pos (by simp;omega),hc,sb,Ze (by omega) (by omega)];by_cases h:Cand hv last b∧(fd=false∨b.f0<nx)
  ·rw[if_pos (by simpa using h),Z0a    h1 hi,sb,sb]
   simp only[];refine ih (pre++[b]) true b.f0 (i+1) e1 e2 ⟨fun h=>(by cases h),fun _=>⟨⟨b,by simp,h.1,rfl⟩,fun c hc hcc => ?_⟩⟩;rcases List.mem_append.1 hc with hc | hc
   ·rcases h.2 with h2 | h2
    ·exact absurd hcc (hL.none h2 c hc)
    ·cases hfd:fd with
     | false=>exact absurd hcc (hL.none hfd c hc)
     | true=>have:=(hL.some hfd).2 c hc hcc;omega
   ·simp at hc;subst hc;exact Int.le_refl _
  ·rw[if_neg (by simpa using h),sb]
   simp only[];refine ih (pre++[b]) fd nx (i+1) e1 e2 ⟨fun hf c hc hcc => ?_,fun hf=>⟨?_,fun c hc hcc => ?_⟩⟩
   ·rcases List.mem_append.1 hc with hc | hc
    ·exact hL.none hf c hc hcc
    ·simp at hc;subst hc;exact h ⟨hcc,.inl hf⟩
   ·obtain⟨c,hc,q⟩:=(hL.some hf).1;exact⟨c,by simp[hc],q⟩
   ·rcases List.mem_append.1 hc with hc | hc
    ·exact(hL.some hf).2 c hc hcc
    ·simp at hc;subst hc
     by_cases h3:nx≤c.f0
     ·exact h3
     ·exact absurd ⟨hcc,.inr (by omega)⟩ h
theorem tidy_l0_ref (l:List Z0) (hl:l.length<1000000) (hp:∀ b∈l,0<b.f1) (ht:cnt l<18446744073709551616):∀ (n:Nat) (o:List Z0) (hv:Bool) (last:Int),(l.filter (fun b=>decide (Cand hv last b))).length≤n→Z3b o→(∀ b∈o,¬ Cand hv last b)→(∀ i,tot o i=if hv=true∧i≤last then tot l i else 0)→o.length+n≤l.length →
  ∃ o',Z0y.l0 l o hv last=some (o',0)∧Z3b o'∧(∀ i,tot o' i=tot l i)∧o'.length≤l.length:=by
 have hn:Nn l:=fun b hb=>Int.le_of_lt (hp b hb);intro n
 induction n with
 | zero =>
  intro o hv last hm hc ho hto hln;obtain⟨fd,nx,e,hL⟩:=tidy_l1 l o hv last hl l [] false 0 0 rfl rfl ⟨by simp,by simp⟩;have hfd:fd=false:=by
   cases hfd:fd with
   | false=>rfl
   | true =>
    obtain⟨b,hb,hbc,_⟩:=(hL.some hfd).1;have:b∈l.filter (fun b=>decide (Cand hv last b)):=List.mem_filter.2 ⟨hb,by simpa using hbc⟩;have:=List.length_pos_of_mem this;omega
  rw[Z0y.l0,e,sb];simp only[hfd];rw[if_pos (by rfl)];refine⟨o,rfl,hc,fun i => ?_,by omega⟩;rw[hto];by_cases h:hv=true∧i≤last
  ·rw[if_pos h]
  ·rw[if_neg h,tot_zero]
   rintro b hb rfl;apply hL.none hfd b hb;unfold Cand;cases hv with
   | false=>exact .inl rfl
   | true=>right;by_cases h2:last<b.f0;exact h2;exact absurd ⟨rfl,by omega⟩ h
 | succ n ih =>
  intro o hv last hm hc ho hto hln;obtain⟨fd,nx,e,hL⟩:=tidy_l1 l o hv last hl l [] false 0 0 rfl rfl ⟨by simp,by simp⟩;cases hfd:fd with
  | false =>
   rw[Z0y.l0,e,sb];simp only[hfd];rw[if_pos (by rfl)];refine⟨o,rfl,hc,fun i => ?_,by omega⟩;rw[hto];by_cases h:hv=true∧i≤last
   ·rw[if_pos h]
   ·rw[if_neg h,tot_zero]
    rintro b hb rfl;apply hL.none hfd b hb;unfold Cand;cases hv with
    | false=>exact .inl rfl
    | true=>right;by_cases h2:last<b.f0;exact h2;exact absurd ⟨rfl,by omega⟩ h
  | true =>
   obtain⟨⟨b,hb,hbc,hbn⟩,hmin⟩:=hL.some hfd;have hpos:0<tot l nx:=by have:=tot_mem hn hb;have:=hp b hb;rw[hbn] at *;omega
   rw[Z0y.l0,e,sb];simp only[hfd];rw[if_neg (by simp),together_eq l nx hl hn ht,sb,if_neg (by simp),if_pos (by simpa using hpos),chkB (by simp;omega),sb];have hlt:∀ c∈o,c.f0<nx:=fun c hc2=>by
    have:=ho c hc2;unfold Cand at this hbc;rcases hbc with h1 | h1
    ·exact absurd (.inl h1) this
    ·have:¬ last<c.f0:=fun h=>this (.inr h)
     omega
   refine ih (o++[⟨nx,tot l nx⟩]) true nx ?_ ?_ ?_ ?_ (by simp;omega)
   ·
    have hsub:(l.filter (fun b=>decide (Cand true nx b)))=(l.filter (fun b=>decide (Cand hv last b))).filter (fun b=>decide (nx<b.f0)):=by
     rw[List.filter_filter];apply List.filter_congr;intro c hc2;unfold Cand;by_cases h1:nx<c.f0
     ·have:hv=false∨last<c.f0:=by
       unfold Cand at hbc;rcases hbc with h2 | h2
       ·exact .inl h2
       ·exact .inr (by omega)
      simp[h1,this]
     ·simp[h1]
    rw[hsub];have hmem:b∈l.filter (fun b=>decide (Cand hv last b)):=List.mem_filter.2 ⟨hb,by simpa using hbc⟩;have:((l.filter (fun b=>decide (Cand hv last b))).filter (fun b=>decide (nx<b.f0))).length<(l.filter (fun b=>decide (Cand hv last b))).length:=by
     rw[List.length_filter_lt_length_iff_exists];exact⟨b,hmem,by simp;omega⟩
    omega
   ·exact⟨List.pairwise_append.2 ⟨hc.up,List.pairwise_singleton _ _,fun c hc2 d hd=>by simp at hd;subst hd;exact hlt c hc2⟩,fun c hc2=>by
     rcases List.mem_append.1 hc2 with h | h
     ·exact hc.pos c h
     ·simp at h;subst h;exact hpos⟩
   ·intro c hc2 hcc
    unfold Cand at hcc;rcases List.mem_append.1 hc2 with h | h
    ·have:=hlt c h;simp at hcc;omega
    ·simp at h;subst h;simp at hcc
   ·intro i
    rw[Z19,Z8n,hto];simp only[true_and];by_cases h1:i=nx
    ·subst h1
     have:¬ (hv=true∧i≤last):=by
      rintro⟨h2,h3⟩;unfold Cand at hbc;rcases hbc with h | h
      ·rw[h2] at h;cases h
      ·omega
     rw[if_neg this,if_pos rfl,if_pos (Int.le_refl _)];omega
    ·rw[if_neg (show ¬ nx=i from fun h=>h1 h.symm)]
     by_cases h2:i≤nx
     ·rw[if_pos h2]
      by_cases h3:hv=true∧i≤last
      ·rw[if_pos h3];omega
      ·rw[if_neg h3,tot_zero]
       ·rfl
       ·rintro c hc2 rfl
        have:Cand hv last c:=by
         unfold Cand;cases hv with
         | false=>exact .inl rfl
         | true=>right;by_cases h4:last<c.f0;exact h4;exact absurd ⟨rfl,by omega⟩ h3
        have:=hmin c hc2 this;omega
     ·rw[if_neg h2,if_neg]
      ·rfl
      ·rintro⟨h3,h4⟩
       unfold Cand at hbc;rcases hbc with h | h
       ·rw[h3] at h;cases h
       ·omega
theorem tidy_ref (l:List Z0) (hl:l.length<1000000) (hp:∀ b∈l,0<b.f1) (ht:cnt l<18446744073709551616) :
  ∃ o,Z0y.f l=some (o,0)∧Z3b o∧(∀ i,tot o i=tot l i)∧o.length≤l.length:=by
 unfold Z0y.f;obtain⟨o,e,h⟩:=tidy_l0_ref l hl hp ht _ [] false 0 (List.length_filter_le _ _) ⟨List.Pairwise.nil,by simp⟩ (by simp) (by simp[tot]) (by simp);rw[e];exact⟨o,rfl,h⟩
theorem ref_of {s u k:Int} (hs:Z0v s) (hu : -262144<u∧u≤262144) (h1:(k-1)*stp s<u) (h2:u≤k*stp s):Z2s.f s u=some (k,true):=by
 have hp:=Z4j s;have hle:=stp_le hs;have hk : -262144≤k∧k≤262145:=by
  constructor
  ·by_cases h:k < -262144
   ·have:=Int.mul_le_mul_of_nonneg_right (show k ≤ -262145 by omega) (Int.le_of_lt hp)
    have:=Int.mul_le_mul_of_nonneg_left (show 1≤stp s by omega) (show(0:Int)≤262145 by omega);omega
   ·omega
  ·by_cases h:262145<k
   ·have:=Int.mul_le_mul_of_nonneg_right (show 262145≤k-1 by omega) (Int.le_of_lt hp)
    have:=Int.mul_le_mul_of_nonneg_left (show 1≤stp s by omega) (show(0:Int)≤262145 by omega);omega
   ·omega
 have htd:Int.tdiv u (stp s)=k∨Int.tdiv u (stp s)=k-1:=by
  by_cases h0:0≤u
  ·rw[Int.tdiv_eq_ediv_of_nonneg h0]
   have e1:=Int.ediv_mul_le u (show stp s≠0 by omega);have e2:=Int.lt_ediv_add_one_mul_self u hp;generalize u / stp s=q at *;have a1:=Int.lt_of_mul_lt_mul_right (show(k-1)*stp s<(q+1)*stp s by omega) (Int.le_of_lt hp);have a2:=Int.le_of_mul_le_mul_right (show q*stp s≤k*stp s by omega) hp;omega
  ·have e0:Int.tdiv u (stp s) = -((-u) / stp s):=by
    rw[← Int.tdiv_eq_ediv_of_nonneg (show 0 ≤ -u by omega),Int.neg_tdiv];omega
   rw[e0];have e1:=Int.ediv_mul_le (-u) (show stp s≠0 by omega);have e2:=Int.lt_ediv_add_one_mul_self (-u) hp;generalize (-u) / stp s=q at *;rw[Int.add_mul] at e2;rw[Int.sub_mul] at h1;have a1:=Int.le_of_mul_le_mul_right (show q*stp s≤(-(k-1))*stp s by rw[Int.neg_mul,Int.sub_mul];omega) hp;have a2:=Int.lt_of_mul_lt_mul_right (show(-k)*stp s<(q+1)*stp s by rw[Int.neg_mul,Int.add_mul];omega) (Int.le_of_lt hp);by_cases hq:q = -k
   ·omega
   ·have:q=1-k:=by omega
    subst this;rw[Int.sub_mul] at e1;omega
 have hU:∀ j:Int,j=k∨j=k-1→Zz.f s j=some (j*stp s):=fun j hj=>Z3r hs (by omega)
 have hl1:Z2s.l1 s u k=some k:=by
  rw[Z2s.l1,Ze (by omega) (by omega),hU _ (.inr rfl),sb,if_neg (by simp;omega)]
 have hl0k:Z2s.l0 s u k=some k:=by
  rw[Z2s.l0,hU _ (.inl rfl),sb,if_neg (by simp;omega)]
 have hl0:Z2s.l0 s u (Int.tdiv u (stp s))=some k:=by
  rcases htd with h | h
  ·rw[h,hl0k]
  ·rw[h,Z2s.l0,hU _ (.inr rfl),sb,if_pos (by simp;omega),Ze (by omega) (by omega),show k-1+1=k by omega,hl0k]
 unfold Z2s.f;rw[Z4k,sb,if_neg (by simp[hs]),if_neg (by simp;omega),sb,if_neg (by simp;omega),ref_step hs,sb,chkB (by omega),Ze (by rcases htd with h | h<;>omega) (by rcases htd with h | h<;>omega),hl0,sb,hl1,sb]
theorem ref_to {f t i:Int} (hf:Z0v f) (ht:Z0v t) (h:t≤f) (hi:InS f i):Z7c.f f t i=some (upI f t i,0):=by
 have hsm:=Z3g hi;obtain⟨h3,h4⟩:=upI_spec f t i;have hst:=stp_rat h hf.2;have hp:=Z4j f;unfold Z7c.f;rw[Z4k,sb,if_neg (by simp[hf]),Z4k,sb,if_neg (by simp[ht]),sb,if_neg (by simp;omega),ref_in hf (Zak hi),sb,if_neg (by simp[hi]),Z3r hf (by omega),sb,
  ref_of ht hi (k:=upI f t i) (by
   rw[hst,Int.mul_comm (stp f),← Int.mul_assoc];exact Int.mul_lt_mul_of_pos_right h3 hp) (by
   rw[hst,Int.mul_comm (stp f),← Int.mul_assoc];exact Int.mul_le_mul_of_nonneg_right h4 (Int.le_of_lt hp)),sb]
theorem coarse_l0 (l:List Z0) (f t:Int) (hf:Z0v f) (ht:Z0v t) (h:t≤f) (hl:l.length<1000000) (hi:∀ b∈l,InS f b.f0):∀ (suf pre o:List Z0) (i:Int),l=pre++suf→i=(pre.length:Int)→o.length=pre.length →
  Z1o.l0 l f t o i=some (o++Z57 f t suf):=by
 intro suf
 induction suf with
 | nil=>intro pre o i h1 hi0 _;subst h1;rw[Z1o.l0,if_neg (by simp[hi0])];simp[Z57]
 | cons x suf ih =>
  intro pre o i h1 hi0 ho;have hx:=hi x (by rw[h1];simp);have hlen:(l.length:Int)=pre.length+(suf.length+1):=by rw[h1];simp
  rw[Z1o.l0,if_pos (by simp;omega),Z0a h1 hi0,sb,ref_to hf ht h hx,sb,chkB (by simp;omega),Ze (by omega) (by omega)];rw[ih (pre++[x]) _ (i+1) (by simp[h1]) (by simp;omega) (by simp;omega)];simp[Z57]
theorem coarse_eq (l:List Z0) (f t:Int) (hf:Z0v f) (ht:Z0v t) (h:t≤f) (hc:Cs f l) (hct:cnt l<18446744073709551616) :
  ∃ o,Z1o.f l f t=some o∧Z3b o∧(∀ i,tot o i=tot (Z57 f t l) i)∧o.length≤l.length:=by
 have hl:=hc.len;have hd:=Zao hf ht h hc;obtain⟨o,e,h1,h2,h3⟩:=tidy_ref (Z57 f t l) (by rw[Z5p];omega) hd.pos (by rw[Z4l];exact hct);unfold Z1o.f;rw[coarse_l0 l f t hf ht h (by omega) hc.ins l [] [] 0 rfl rfl rfl,sb,List.nil_append,e];exact⟨o,rfl,h1,h2,by rw[Z5p] at h3;exact h3⟩
theorem within_l0 (s a:Int) (l:List Z0) (hs:Z0v s) (hl:l.length<1000000000) (hi:∀ b∈l,InS s b.f0):∀ (suf pre:List Z0) (i:Int),l=pre++suf→i=(pre.length:Int) →
  Z1n.l0 s l a i=some (if Z3a s a suf then .inl (cg s a) else .inr ()):=by
 intro suf
 induction suf with
 | nil=>intro pre i h1 hi0;subst h1;rw[Z1n.l0,if_neg (by simp[hi0]),if_neg (by simp[Z3a])]
 | cons x suf ih =>
  intro pre i h1 hi0;have hx:=hi x (by rw[h1];simp);have hsm:=Z3g hx;have hlen:(l.length:Int)=pre.length+(suf.length+1):=by rw[h1];simp
  rw[Z1n.l0,if_pos (by simp;omega),Z0a h1 hi0,sb,sb,Ze (n:=x.f0-1) (by omega) (by omega),Z3r hs (i:=x.f0-1) (by omega),sb,Z3r hs (i:=x.f0) (by omega),sb,sb,ifand,sb];by_cases hc:(x.f0-1)*stp s<a∧a<x.f0*stp s
  ·rw[if_pos (by simpa using hc),if_pos ⟨x,by simp,hc⟩,cg_eq hc.1 (by omega)]
  ·rw[if_neg (by simpa using hc),Ze     (by omega) (by omega),ih (pre++[x]) (i+1) (by simp[h1]) (by simp;omega)]
   have:Z3a s a (x::suf)↔Z3a s a suf:=by
    constructor
    ·rintro⟨b,hb,h⟩
     rcases List.mem_cons.1 hb with rfl | hb
     ·exact absurd h hc
     ·exact⟨b,hb,h⟩
    ·rintro⟨b,hb,h⟩;exact⟨b,by simp[hb],h⟩
   by_cases hst:Z3a s a suf
   ·rw[if_pos hst,if_pos (this.2 hst)]
   ·rw[if_neg hst,if_neg (fun q=>hst (this.1 q))]
theorem within_eq (s a:Int) (l:List Z0) (hs:Z0v s) (hl:l.length<1000000000) (hi:∀ b∈l,InS s b.f0):Z1n.f s l a=some (if Z3a s a l then cg s a else a):=by
 unfold Z1n.f;rw[within_l0 s a l hs hl hi l [] 0 rfl rfl,sb];by_cases hst:Z3a s a l
 ·rw[if_pos hst,if_pos hst]
 ·rw[if_neg hst,if_neg hst]
theorem rsw_l0 (h:Z1) (a:Int) (hs:Z0v h.f1) (hl:h.f6.length<1000000) (hi:∀ b∈h.f6,InS h.f1 b.f0) (hU:∀ b∈h.f6,0≤b.f1):∀ (suf pre:List Z0) (z:Int) (o:List Z0) (i:Int),h.f6=pre++suf→i=(pre.length:Int)→0≤z→z+cnt suf<18446744073709551616→o.length≤pre.length →
  Z09.l0 h a z o i=some (z+cnt (Z5g h.f1 a suf),o++Z4s h.f1 a suf):=by
 intro suf
 induction suf with
 | nil=>intro pre z o i h1 hi0 _ _ _;rw[Z09.l0,if_neg (by rw[h1];simp[hi0])];simp[cnt]
 | cons x suf ih =>
  intro pre z o i h1 hi0 h0 hz ho;have hx:=hi x (by rw[h1];simp);have hsm:=Z3g hx;have hx1:=hU x (by rw[h1];simp);have hn:0≤cnt suf:=Zs (fun b hb=>hU b (by rw[h1];simp[hb]));have hlen:(h.f6.length:Int)=pre.length+(suf.length+1):=by rw[h1];simp
  rw[Z4d] at hz;rw[Z09.l0,if_pos (by simp;omega),Z0a h1 hi0,sb,Z3r hs (by omega),sb,Ze (by omega) (by omega)];by_cases hc:a<x.f0*stp h.f1
  ·rw[if_neg (by simp;omega),chkB (by simp;omega),sb]
   simp only[];rw[ih (pre++[x]) z (o++[x]) (i+1) (by simp[h1]) (by simp;omega) h0 (by omega) (by simp;omega)];simp[hc]
  ·rw[if_pos (by simp;omega),Z23   (by omega) (by omega),sb]
   simp only[];rw[ih (pre++[x]) (z+x.f1) o (i+1) (by simp[h1]) (by simp;omega) (by omega) (by omega) (by simp;omega)];rw[show Z4s h.f1 a (x::suf)=Z4s h.f1 a suf from List.filter_cons_of_neg (by simpa using hc),show Z5g h.f1 a (x::suf)=x::Z5g h.f1 a suf from List.filter_cons_of_pos (by simpa using hc),Z4d,Int.add_assoc]
theorem rsw_l1 (h:Z1) (a:Int) (q:List Z0) (hs:Z0v h.f1) (hl:h.f7.length<1000000) (hi:∀ b∈h.f7,InS h.f1 b.f0) (hU:∀ b∈h.f7,0≤b.f1):∀ (suf pre:List Z0) (z:Int) (o:List Z0) (i:Int),h.f7=pre++suf→i=(pre.length:Int)→0≤z→z+cnt suf<18446744073709551616→o.length≤pre.length →
  Z09.l1 h a q z o i=some (z+cnt (Z5g h.f1 a suf),o++Z4s h.f1 a suf):=by
 intro suf
 induction suf with
 | nil=>intro pre z o i h1 hi0 _ _ _;rw[Z09.l1,if_neg (by rw[h1];simp[hi0])];simp[cnt]
 | cons x suf ih =>
  intro pre z o i h1 hi0 h0 hz ho;have hx:=hi x (by rw[h1];simp);have hsm:=Z3g hx;have hx1:=hU x (by rw[h1];simp);have hn:0≤cnt suf:=Zs (fun b hb=>hU b (by rw[h1];simp[hb]));have hlen:(h.f7.length:Int)=pre.length+(suf.length+1):=by rw[h1];simp
  rw[Z4d] at hz;rw[Z09.l1,if_pos (by simp;omega),Z0a h1 hi0,sb,Z3r hs (by omega),sb,Ze (by omega) (by omega)];by_cases hc:a<x.f0*stp h.f1
  ·rw[if_neg (by simp;omega),chkB (by simp;omega),sb]
   simp only[];rw[ih (pre++[x]) z (o++[x]) (i+1) (by simp[h1]) (by simp;omega) h0 (by omega) (by simp;omega)];simp[hc]
  ·rw[if_pos (by simp;omega),Z23   (by omega) (by omega),sb]
   simp only[];rw[ih (pre++[x]) (z+x.f1) o (i+1) (by simp[h1]) (by simp;omega) (by omega) (by omega) (by simp;omega)];rw[show Z4s h.f1 a (x::suf)=Z4s h.f1 a suf from List.filter_cons_of_neg (by simpa using hc),show Z5g h.f1 a (x::suf)=x::Z5g h.f1 a suf from List.filter_cons_of_pos (by simpa using hc),Z4d,Int.add_assoc]
noncomputable def rsw (h:Z1) (a:Int):Z1:=⟨h.f0,h.f1,zAt h.f1 a h.f6 h.f7,h.f3+cnt (Z5g h.f1 (zAt h.f1 a h.f6 h.f7) h.f6)+cnt (Z5g h.f1 (zAt h.f1 a h.f6 h.f7) h.f7),h.f4,h.f5,Z4s h.f1 (zAt h.f1 a h.f6 h.f7) h.f6,Z4s h.f1 (zAt h.f1 a h.f6 h.f7) h.f7⟩
theorem rsw_eq (h:Z1) (a:Int) (hs:Z0v h.f1) (hp:Cs h.f1 h.f6) (hn:Cs h.f1 h.f7) (h3:0≤h.f3) (ht:cnt h.f6+cnt h.f7+h.f3<18446744073709551616):Z09.f h a=some (rsw h a):=by
 have l1:=hp.len;have l2:=hn.len;have c1:=Zs hp.nn;have c2:=Zs hn.nn;have d1:cnt (Z4s h.f1 (zAt h.f1 a h.f6 h.f7) h.f6)+cnt (Z5g h.f1 (zAt h.f1 a h.f6 h.f7) h.f6)=cnt h.f6:=Z6c h.f6 _;have e1:=Zs (l:=Z4s h.f1 (zAt h.f1 a h.f6 h.f7) h.f6) (fun b hb=>hp.nn b (List.mem_filter.1 hb).1);have e2:=Zs (l:=Z5g h.f1 (zAt h.f1 a h.f6 h.f7) h.f6) (fun b hb=>hp.nn b (List.mem_filter.1 hb).1);have hmax:((if(decide ((if Z3a h.f1 a h.f7 then cg h.f1 a else a)>(if Z3a h.f1 a h.f6 then cg h.f1 a else a)))=true then(some (if Z3a h.f1 a h.f7 then cg h.f1 a else a)) else(some (if Z3a h.f1 a h.f6 then cg h.f1 a else a))):Option Int)=some (zAt h.f1 a h.f6 h.f7):=by
  rw[← zAt_max];by_cases h:(if Z3a h.f1 a h.f7 then cg h.f1 a else a)>(if Z3a h.f1 a h.f6 then cg h.f1 a else a)
  ·rw[if_pos (by simpa using h),if_pos h]
  ·rw[if_neg (by simpa using h),if_neg h]
 unfold Z09.f;rw[within_eq h.f1 a h.f6 hs (by omega) hp.ins,within_eq h.f1 a h.f7 hs (by omega) hn.ins,sb,sb,hmax,sb,rsw_l0 h _ hs (by omega) hp.ins hp.nn h.f6 [] h.f3 [] 0 rfl rfl h3 (by omega) (Nat.le_refl _),sb];simp only[List.nil_append];rw[rsw_l1 h _ _ hs (by omega) hn.ins hn.nn h.f7 [] _ [] 0 rfl rfl (by omega) (by omega) (Nat.le_refl _),sb];simp only[List.nil_append];rfl
theorem Z9u {s a:Int} {l l':List Z0} (hp:∀ b∈l,0<b.f1) (h:∀ i,tot l i=tot l' i) (hs:Z3a s a l):Z3a s a l':=by
 obtain⟨b,hb,h1⟩:=hs;by_cases hc:∃ c∈l',c.f0=b.f0
 ·obtain⟨c,hc,e⟩:=hc;exact⟨c,hc,e ▸ h1⟩
 ·have h2:=tot_mem (fun b hb=>Int.le_of_lt (hp b hb)) hb
  rw[h,tot_zero (fun c hc2 e=>hc ⟨c,hc2,e⟩)] at h2;have:=hp b hb;omega
theorem zAt_congr {s a:Int} {p n p' n':List Z0} (hp:∀ b∈p,0<b.f1) (hn:∀ b∈n,0<b.f1) (hp':∀ b∈p',0<b.f1) (hn':∀ b∈n',0<b.f1) (h1:∀ i,tot p i=tot p' i) (h2:∀ i,tot n i=tot n' i):zAt s a p n=zAt s a p' n':=by
 unfold zAt;have e1:Z3a s a p↔Z3a s a p':=⟨Z9u hp h1,Z9u hp' (fun i=>(h1 i).symm)⟩
 have e2:Z3a s a n↔Z3a s a n':=⟨Z9u hn h2,Z9u hn' (fun i=>(h2 i).symm)⟩
 by_cases h:Z3a s a p∨Z3a s a n
 ·rw[if_pos h,if_pos (by rw[← e1,← e2];exact h)]
 ·rw[if_neg h,if_neg (by rw[← e1,← e2];exact h)]
theorem swal_rsw {h g:Z1} {p n:List Z0} {a:Int} {r:Z1} (w:Swal h p n a r) (hp:∀ b∈p,0<b.f1) (hn:∀ b∈n,0<b.f1) (c6:Z3b g.f6) (c7:Z3b g.f7) (t6:∀ i,tot g.f6 i=tot p i) (t7:∀ i,tot g.f7 i=tot n i)
  (e0:g.f0=h.f0) (e1:g.f1=h.f1) (e3:g.f3=h.f3) (e4:g.f4=cnt p+cnt n+h.f3) (e5:g.f5=h.f5):rsw g a=r:=by
 have hz:zAt g.f1 a g.f6 g.f7=zAt h.f1 a p n:=by rw[e1];exact zAt_congr c6.pos c7.pos hp hn t6 t7
 have k6:Z3b (Z4s h.f1 (zAt h.f1 a p n) g.f6):=⟨c6.up.filter _,fun b hb=>c6.pos b (List.mem_filter.1 hb).1⟩
 have k7:Z3b (Z4s h.f1 (zAt h.f1 a p n) g.f7):=⟨c7.up.filter _,fun b hb=>c7.pos b (List.mem_filter.1 hb).1⟩
 have q6:Z4s h.f1 (zAt h.f1 a p n) g.f6=r.f6:=Z1u k6 w.valid.pos.canon (fun i=>by rw[w.tpos,Z63 g.f6 (Zb1 h.f1 (zAt h.f1 a p n)) i,t6]);have q7:Z4s h.f1 (zAt h.f1 a p n) g.f7=r.f7:=Z1u k7 w.valid.neg.canon (fun i=>by rw[w.tneg,Z63 g.f7 (Zb1 h.f1 (zAt h.f1 a p n)) i,t7]);have d6:cnt (Z4s h.f1 (zAt h.f1 a p n) g.f6)+cnt (Z5g h.f1 (zAt h.f1 a p n) g.f6)=cnt g.f6:=Z6c g.f6 _;have d7:cnt (Z4s h.f1 (zAt h.f1 a p n) g.f7)+cnt (Z5g h.f1 (zAt h.f1 a p n) g.f7)=cnt g.f7:=Z6c g.f7 _;have m6:=Z3z t6;have m7:=Z3z t7;have hc:=w.valid.count;have hcc:=w.count;rw[← q6,← q7] at hc;unfold rsw;rw[hz,e1];exact hist_ext (e0.trans w.kind.symm) w.schema.symm w.zeroAt.symm (by simp only;omega) (by simp only;rw[e4,w.count]) (e5.trans w.sum.symm) q6 q7
theorem ref_Down (a:Z1) (s:Int) (hv:Z0l a) (hf:Fits a):∃ r e,Z2d.f a s=some (r,e)∧Z2z.f a s=some (r,e):=by
 by_cases h:Z0v s∧s≤a.f1
 case neg =>
  refine⟨h0,20,Down_bad a s h,?_⟩;unfold Z2z.f;by_cases hs:Z0v s
  ·rw[Z4k,sb,if_neg (by simp[hs]),sb,if_pos (by simp;have:¬ s≤a.f1:=fun q=>h ⟨hs,q⟩;omega)];rfl
  ·rw[Z4k,sb,if_pos (by simp[hs]),sb,if_pos rfl];rfl
 obtain⟨hs,hle⟩:=h;have l1:=hv.pos.len;have l2:=hv.neg.len;have h1:=hv.count;have h2:=hv.total;have p6:=Zao hv.schema hs hle (Z48 hv.pos);have p7:=Zao hv.schema hs hle (Z48 hv.neg);have n6:=Zs hv.pos.canon.nn;have n7:=Zs hv.neg.canon.nn;have hz:=hf.zero.1;obtain⟨r,e,w⟩:=Z8p (⟨a.f0,s,a.f2,a.f3,a.f4,a.f5,a.f6,a.f7⟩:Z1) (Z57 a.f1 s a.f6) (Z57 a.f1 s a.f7) a.f2 hv.kind hs hv.zero hz hf.sum p6 p7
  (by rw[Z5p];exact l1) (by rw[Z5p];exact l2) (by rw[Z4l,Z4l];exact h2)
 refine⟨r,0,?_,?_⟩
 ·unfold         Z2d.f
  rw[Z5z hs,sb,if_neg (by simp),sb,if_neg (by simp;omega),down_eq a.f6 a.f1 s hv.schema hs hle (by omega) (Z48 hv.pos).ins,down_eq a.f7 a.f1 s hv.schema hs hle (by omega) (Z48 hv.neg).ins,sb,sb,e];rfl
 ·obtain⟨o6,e6,c6,t6,m6⟩:=coarse_eq a.f6 a.f1 s hv.schema hs hle (Z48     hv.pos) (by omega)
  obtain⟨o7,e7,c7,t7,m7⟩:=coarse_eq a.f7 a.f1 s hv.schema hs hle (Z48 hv.neg) (by omega);have cs6:Cs s o6:=⟨by omega,fun b hb=>by
   by_cases hc:∃ x∈Z57 a.f1 s a.f6,x.f0=b.f0
   ·obtain⟨x,hx,e⟩:=hc;rw[← e];exact p6.ins x hx
   ·have h3:=t6 b.f0
    rw[c6.tot_of hb,tot_zero (fun x hx e=>hc ⟨x,hx,e⟩)] at h3;have:=c6.pos b hb;omega,c6.pos⟩
  have cs7:Cs s o7:=⟨by omega,fun b hb=>by
   by_cases hc:∃ x∈Z57 a.f1 s a.f7,x.f0=b.f0
   ·obtain⟨x,hx,e⟩:=hc;rw[← e];exact p7.ins x hx
   ·have h3:=t7 b.f0
    rw[c7.tot_of hb,tot_zero (fun x hx e=>hc ⟨x,hx,e⟩)] at h3;have:=c7.pos b hb;omega,c7.pos⟩
  have q6:=Z3z t6;have q7:=Z3z t7;rw[Z4l] at q6 q7;unfold Z2z.f;rw[Z4k,sb,if_neg (by simp[hs]),sb,if_neg (by simp;omega),e6,e7,sb,sb,rsw_eq (⟨a.f0,s,a.f2,a.f3,a.f4,a.f5,o6,o7⟩:Z1) a.f2 hs cs6 cs7 hz (by simp only;omega),sb];rw[swal_rsw (g:=(⟨a.f0,s,a.f2,a.f3,a.f4,a.f5,o6,o7⟩:Z1)) w p6.pos p7.pos c6 c7 t6 t7 rfl rfl rfl (by simp only[Z4l];exact h1) rfl]
theorem ref_Widen (a:Z1) (z:Int) (hv:Z0l a) (hf:Fits a):∃ r e,Z17.f a z=some (r,e)∧Z3j.f a z=some (r,e):=by
 by_cases h1:z=a.f2
 ·subst h1
  refine⟨a,0,Z47 a hv,?_⟩;unfold Z3j.f;rw[if_neg (by simp),if_neg (by simp),sb,if_neg (by simp),if_pos (by simp)]
 by_cases h2:a.f2<z ∧ -262144<z∧z≤262144
 ·obtain⟨r,e,w⟩:=Z4x        a z hv hf h2.2 h2.1
  refine⟨r,0,e,?_⟩;have hc:=hv.count;unfold Z3j.f;rw[if_neg (by simp;omega),if_pos (by simpa using h1),if_neg (by simp;omega),sb,if_neg (by simp;omega),if_neg (by simpa using h1),rsw_eq a z hv.schema (Z48 hv.pos) (Z48 hv.neg) hf.zero.1 hv.total,sb,
   swal_rsw (g:=a) w (Z48 hv.pos).pos (Z48 hv.neg).pos hv.pos.canon hv.neg.canon (fun _=>rfl) (fun _=>rfl) rfl rfl rfl hc rfl]
 ·refine⟨h0,31,Zb4       a z (by by_cases h3:z<a.f2;exact .inl h3;exact .inr ⟨h1,fun q=>h2 ⟨by omega,q⟩⟩),?_⟩
  unfold Z3j.f;by_cases h3:z<a.f2
  ·rw[if_pos (by simpa using h3),sb,if_pos rfl];rfl
  ·rw[if_neg (by simpa using h3),if_pos (by simpa using h1)]
   have:((if(decide (z≤(-262144)))=true then(some true) else(some (decide (z>(262144:Int))))):Option (Bool))=some true:=by
    by_cases h4:z ≤ -262144
    ·rw[if_pos (by simpa using h4)]
    ·rw[if_neg (by simpa using h4)];simp;omega
   rw[this,sb,if_pos rfl];rfl
end Go.Proofs.YtcilcefjcaimoaaGreat.PvGQ
namespace Go.Proofs.YtcilcefjcaimoaaGreat.PvGQ
open Go Go.Pv Go.Pv.GS Go.IntKind
abbrev Z5o (since at_:Int) (s:Zv):Bool:=decide (since<s.f0∧s.f0≤at_)
theorem win_inst (l:List Zv) (a b:Int):Zj.f l a b=deleteF.f (fun x=>Z1q.f x a b) (⟨0,(⟨0,0,0,0,0,0,[],[]⟩:Z1)⟩:Zv) l:=by kernel_rfl
theorem win_eq (l:List Zv) (hl:l.length<1000000000) (a b:Int):Z44.f l a b=some (l.filter (Z5o a b)):=by
 unfold Z44.f Z1e.f;rw[chkB (by simp;omega),sb,win_inst,Zbo (p:=fun s => !Z5o a b s) (fun s=>by
  unfold Z1q.f Z5o;by_cases c:s.f0≤a
  ·rw[if_pos (by simpa using c),sb,decide_eq_false (by omega)];rfl
  ·rw[if_neg (by simpa using c),sb]
   by_cases c2:s.f0>b
   ·rw[decide_eq_true c2,decide_eq_false (by omega)];rfl
   ·rw[decide_eq_false c2,decide_eq_true (by omega)];rfl) _ _ (by omega),sb]
 simp only[Bool.not_not]
theorem rtime (t:Int):Z42.f t=some (decide (0≤t∧t≤1099511627776)):=by
 unfold Z42.f;by_cases c:0≤t<;>simp[c]
theorem quant_tot {h:Z1} (v:Z0l h) (f:Fits h) {part of:Int} (hp:U64 part) (ho:U64 of):∃ k e,Z0z.f h part of=some (k,e):=by
 by_cases h0:of=0
 ·unfold             Z0z.f
  rw[if_pos (by simpa using h0),sb,if_pos rfl];exact⟨_,_,rfl⟩
 by_cases hle:part≤of
 case neg =>
  unfold Z0z.f;rw[if_neg (by simpa using h0),sb,if_pos (by simp;omega)];exact⟨_,_,rfl⟩
 by_cases hc:h.f4=0
 ·unfold             Z0z.f
  rw[if_neg (by simpa using h0),sb,if_neg (by simp;omega),if_pos (by simpa using hc)];exact⟨_,_,rfl⟩
 have:=f.count.1;obtain⟨c,_,_,e⟩:=quant_ok v f hp ho (by have:=ho.1;omega) hle (by omega);exact⟨_,_,e⟩
abbrev ans0:Z7:=⟨(⟨0,0,0,0,0,0,[],[]⟩:Z1),0,0,(⟨0,0,0⟩:Z8),(⟨0,0,0⟩:Zb)⟩
theorem finish_tot (q:Z1d) {h:Z1} (v:Z0l h) (f:Fits h) (hp:U64 q.f1) (ho:U64 q.f2):∃ a e,Z0h.f q h=some (a,e)∧(q.f0=0→a.f0=h∧e=0)∧(q.f0=1→a.f1=h.f5∧e=0)∧(q.f0=2→a.f2=h.f4∧e=0)∧(a.f0=h∨a.f0=(⟨0,0,0,0,0,0,[],[]⟩:Z1)):=by
 have hsm:h.f6.length<1000000000∧h.f7.length<1000000000:=by have:=v.pos.len;have:=v.neg.len;omega
 unfold Z0h.f;by_cases h0:q.f0=0∨q.f0=5
 ·have hb:((if(q.f0==(0:Int))=true then(some (q.f0==(0:Int))) else(some (q.f0==(5:Int)))):Option Bool)=some true:=by
   rcases h0 with c | c<;>simp[c]
  rw[hb,sb,if_pos rfl,Z4m h hsm.1 hsm.2,sb,sb];dsimp only;rw[if_neg (by simp)];exact⟨_,_,rfl,fun _=>⟨rfl,rfl⟩,fun c=>by rcases h0 with q | q<;>omega,fun c=>by rcases h0 with q | q<;>omega,.inl rfl⟩
 have hb:((if(q.f0==(0:Int))=true then(some (q.f0==(0:Int))) else(some (q.f0==(5:Int)))):Option Bool)=some false:=by
  have c1:¬ q.f0=0:=fun c=>h0 (.inl c);have c2:¬ q.f0=5:=fun c=>h0 (.inr c);simp[c1,c2]
 rw[hb,sb,if_neg (by simp)];by_cases h1:q.f0=1
 ·rw[if_pos (by simpa using h1),sb]
  dsimp only;rw[sb];dsimp only;rw[if_neg (by simp)];exact⟨_,_,rfl,fun c=>by omega,fun _=>⟨rfl,rfl⟩,fun c=>by omega,.inr rfl⟩
 rw[if_neg (by simpa using h1)];by_cases h2:q.f0=2
 ·rw[if_pos (by simpa using h2),sb]
  dsimp only;rw[sb];dsimp only;rw[sb];dsimp only;rw[if_neg (by simp)];exact⟨_,_,rfl,fun c=>by omega,fun c=>by omega,fun _=>⟨rfl,rfl⟩,.inr rfl⟩
 rw[if_neg (by simpa using h2)];by_cases h3:q.f0=3
 ·obtain⟨k,e,eq⟩:=quant_tot v f hp ho
  rw[if_pos (by simpa using h3),eq,sb,sb];dsimp only;rw[sb];dsimp only;rw[sb];dsimp only;rw[sb];dsimp only;by_cases he:e=0
  ·rw[if_neg (by simpa using he)];exact⟨_,_,rfl,fun c=>by omega,fun c=>by omega,fun c=>by omega,.inr rfl⟩
  ·rw[if_pos (by simpa using he)];exact⟨_,_,rfl,fun c=>by omega,fun c=>by omega,fun c=>by omega,.inr rfl⟩
 rw[if_neg (by simpa using h3)];obtain⟨p,e,eq⟩:∃ (p:Int×Int×Int) (e:Int),((if(q.f0==(4:Int))=true then((Z1g.f h (⟨q.f3.f0,q.f3.f1⟩:Zx))>>=fun t2340=>some ((t2340.1).f0,(t2340.1).f1,(t2340.1).f2,t2340.2)) else(some (0,0,0,1))):Option (Int×Int×Int×Int))=some (p.1,p.2.1,p.2.2,e):=by
  by_cases h4:q.f0=4
  ·rw[if_pos (by simpa using h4),below_eq v f,sb];exact⟨(_,_,_),_,rfl⟩
  ·rw[if_neg (by simpa using h4)];exact⟨(0,0,0),1,rfl⟩
 rw[eq,sb];dsimp only;rw[sb];dsimp only;rw[sb];dsimp only;rw[sb];dsimp only;rw[sb];dsimp only;by_cases he:e=0
 ·rw[if_neg (by simpa using he)];exact⟨_,_,rfl,fun c=>by omega,fun c=>by omega,fun c=>by omega,.inr rfl⟩
 ·rw[if_pos (by simpa using he)];exact⟨_,_,rfl,fun c=>by omega,fun c=>by omega,fun c=>by omega,.inr rfl⟩
end Go.Proofs.YtcilcefjcaimoaaGreat.PvGQ
namespace Go.Proofs.YtcilcefjcaimoaaGreat.PvGQ
open Go Go.Pv Go.Pv.GS Go.IntKind
open Classical
theorem Zbw (a b p q:Z1) (s zp zq:Int) (hp:Cut a s zp p) (hq:Cut b s zq q) :
  ∃ p' q' z,         Z01.l0 (p.f0,p.f1,p.f2,p.f3,p.f4,p.f5,p.f6,p.f7,q.f0,q.f1,q.f2,q.f3,q.f4,q.f5,q.f6,q.f7)=some (.inr (p'.f0,p'.f1,p'.f2,p'.f3,p'.f4,p'.f5,p'.f6,p'.f7,q'.f0,q'.f1,q'.f2,q'.f3,q'.f4,q'.f5,q'.f6,q'.f7)) ∧
   Cut a s z p'∧Cut b s z q'∧z=(if zp<zq then zAt s zq p.f6 p.f7 else if zq<zp then zAt s zp q.f6 q.f7 else zp):=by
 have done:∀ (p q:Z1) (z:Int),p.f2=z→q.f2=z→Z01.l0 (p.f0,p.f1,p.f2,p.f3,p.f4,p.f5,p.f6,p.f7,q.f0,q.f1,q.f2,q.f3,q.f4,q.f5,q.f6,q.f7)=some (.inr (p.f0,p.f1,p.f2,p.f3,p.f4,p.f5,p.f6,p.f7,q.f0,q.f1,q.f2,q.f3,q.f4,q.f5,q.f6,q.f7)):=by
  intro p q z h1 h2;rw[Z01.l0]
  (try simp only[])
  rw[if_neg (by simp[h1,h2])]
 have step:∀ (p q p' q':Z1),p.f2≠q.f2→Z17.f p (if q.f2>p.f2 then q.f2 else p.f2)=some (p',0)→Z17.f q (if q.f2>p.f2 then q.f2 else p.f2)=some (q',0) →
   Z01.l0 (p.f0,p.f1,p.f2,p.f3,p.f4,p.f5,p.f6,p.f7,q.f0,q.f1,q.f2,q.f3,q.f4,q.f5,q.f6,q.f7)=Z01.l0 (p'.f0,p'.f1,p'.f2,p'.f3,p'.f4,p'.f5,p'.f6,p'.f7,q'.f0,q'.f1,q'.f2,q'.f3,q'.f4,q'.f5,q'.f6,q'.f7):=by
  intro p q p' q' hne h1 h2
  conv=>lhs;rw[Z01.l0]
  (try simp only[])
  rw[if_pos (by simpa using hne),h1,sb,h2,sb,if_neg (by simp)]
 have rng:∀ (u:Z1) (z:Int),Z0l u→z<u.f2→(z = -524288∨(-262144<z∧z≤262144)) → -262144<u.f2∧u.f2≤262144:=by
  intro u z hu hlt hz;rcases hu.zero with h | h
  ·rcases hz with h' | h'<;>omega
  ·exact h
 by_cases h1:zp<zq
 ·have hz:=rng q zp hq.valid (by rw[hq.zeroAt];exact h1) (hp.zeroAt ▸ hp.valid.zero)
  rw[hq.zeroAt] at hz;obtain⟨p1,e1,w1⟩:=Z4x p zq hp.valid hp.fits hz (by rw[hp.zeroAt];exact h1);have c1:=hp.widen (by omega) w1;have es:=step p q p1 q (by rw[hp.zeroAt,hq.zeroAt];omega) (by rw[hp.zeroAt,hq.zeroAt,if_pos h1];exact e1) (by rw[hp.zeroAt,hq.zeroAt,if_pos h1];have:=Z47 q hq.valid;rw[hq.zeroAt] at this;exact this);rw[es,if_pos h1];rcases zAt_or s zq p.f6 p.f7 with ⟨hA,_⟩ | hA
  ·exact⟨p1,q,zq,done p1 q zq (by rw[c1.zeroAt,hA]) hq.zeroAt,hA ▸ c1,hq,hA.symm⟩
  ·by_cases heq:zAt s zq p.f6 p.f7=zq
   ·exact⟨p1,q,zq,done p1 q zq (by rw[c1.zeroAt,heq]) hq.zeroAt,heq ▸ c1,hq,heq.symm⟩
   have hgt:zq<zAt s zq p.f6 p.f7:=by have:=zAt_le s zq p.f6 p.f7;omega
   have hz2:=rng p1 zq c1.valid (by rw[c1.zeroAt];exact hgt) (.inr hz);rw[c1.zeroAt] at hz2;obtain⟨q1,e2,w2⟩:=Z4x q (zAt s zq p.f6 p.f7) hq.valid hq.fits hz2 (by rw[hq.zeroAt];exact hgt);have c2:=hq.widen (by omega) w2;have hno:zAt s (zAt s zq p.f6 p.f7) q.f6 q.f7=zAt s zq p.f6 p.f7:=by rw[hA];exact zAt_no Z6i Z6i
   rw[hno] at c2;have es2:=step p1 q p1 q1 (by rw[c1.zeroAt,hq.zeroAt];omega) (by rw[c1.zeroAt,hq.zeroAt,if_neg (by omega)];have:=Z47 p1 c1.valid;rw[c1.zeroAt] at this;exact this) (by rw[c1.zeroAt,hq.zeroAt,if_neg (by omega)];exact e2);rw[es2];exact⟨p1,q1,_,done p1 q1 _ c1.zeroAt c2.zeroAt,c1,c2,rfl⟩
 ·by_cases h2:zq<zp
  ·have hz:=rng p zq hp.valid (by rw[hp.zeroAt];exact h2) (hq.zeroAt ▸ hq.valid.zero)
   rw[hp.zeroAt] at hz;obtain⟨q1,e1,w1⟩:=Z4x q zp hq.valid hq.fits hz (by rw[hq.zeroAt];exact h2);have c1:=hq.widen (by omega) w1;have es:=step p q p q1 (by rw[hp.zeroAt,hq.zeroAt];omega) (by rw[hp.zeroAt,hq.zeroAt,if_neg h1];have:=Z47 p hp.valid;rw[hp.zeroAt] at this;exact this) (by rw[hp.zeroAt,hq.zeroAt,if_neg h1];exact e1);rw[es,if_neg h1,if_pos h2];rcases zAt_or s zp q.f6 q.f7 with ⟨hA,_⟩ | hA
   ·exact⟨p,q1,zp,done p q1 zp hp.zeroAt (by rw[c1.zeroAt,hA]),hp,hA ▸ c1,hA.symm⟩
   ·by_cases heq:zAt s zp q.f6 q.f7=zp
    ·exact⟨p,q1,zp,done p q1 zp hp.zeroAt (by rw[c1.zeroAt,heq]),hp,heq ▸ c1,heq.symm⟩
    have hgt:zp<zAt s zp q.f6 q.f7:=by have:=zAt_le s zp q.f6 q.f7;omega
    have hz2:=rng q1 zp c1.valid (by rw[c1.zeroAt];exact hgt) (.inr hz);rw[c1.zeroAt] at hz2;obtain⟨p1,e2,w2⟩:=Z4x p (zAt s zp q.f6 q.f7) hp.valid hp.fits hz2 (by rw[hp.zeroAt];exact hgt);have c2:=hp.widen (by omega) w2;have hno:zAt s (zAt s zp q.f6 q.f7) p.f6 p.f7=zAt s zp q.f6 q.f7:=by rw[hA];exact zAt_no Z6i Z6i
    rw[hno] at c2;have es2:=step p q1 p1 q1 (by rw[c1.zeroAt,hp.zeroAt];omega) (by rw[c1.zeroAt,hp.zeroAt,if_pos (by omega)];exact e2) (by rw[c1.zeroAt,hp.zeroAt,if_pos (by omega)];have:=Z47 q1 c1.valid;rw[c1.zeroAt] at this;exact this);rw[es2];exact⟨p1,q1,_,done p1 q1 _ c2.zeroAt c1.zeroAt,c2,c1,rfl⟩
  ·have:zp=zq:=by omega
   subst this;rw[if_neg h1,if_neg h2];exact⟨p,q,zp,done p q zp hp.zeroAt hq.zeroAt,hp,hq,rfl⟩
theorem Alike_eq (a b:Z1) (ha:Z0l a) (fa:Fits a) (hb:Z0l b) (fb:Fits b) :
  ∃ p0 q0 p q s z,s=(if b.f1<a.f1 then b.f1 else a.f1) ∧         Z2d.f a s=some (p0,0) ∧         Z2d.f b s=some (q0,0)∧Cut a s p0.f2 p0∧Cut b s q0.f2 q0 ∧          Z01.f a b=some (p,q,0)∧Cut a s z p∧Cut b s z q ∧
   z=(if p0.f2<q0.f2 then zAt s q0.f2 p0.f6 p0.f7 else if q0.f2<p0.f2 then zAt s p0.f2 q0.f6 q0.f7 else p0.f2):=by
 have hs:Z0v (if b.f1<a.f1 then b.f1 else a.f1):=by split;exact hb.schema;exact ha.schema
 obtain⟨p0,e1,c1⟩:=Down_eq a _ ha fa hs (by split<;>omega);obtain⟨q0,e2,c2⟩:=Down_eq b _ hb fb hs (by split<;>omega);have c1':=c1;have c2':=c2;rw[← c1.zeroAt] at c1';rw[← c2.zeroAt] at c2';obtain⟨p,q,z,el,cp,cq,hz⟩:=Zbw a b p0 q0 _ _ _ c1' c2';refine⟨p0,q0,p,q,_,z,rfl,e1,e2,c1',c2',?_,cp,cq,hz⟩;unfold Z01.f;rw[e1,sb,e2,sb,if_neg (by simp)];simp only[];rw[el];rfl
theorem Zb3 (a r:Z1) (z:Int) (hv:Z0l a) (hf:Fits a) (h:Z17.f a z=some (r,0)):Z0l r∧Fits r:=by
 by_cases h1:z=a.f2
 ·subst h1;rw[Z47 a hv] at h;simp at h;subst h;exact⟨hv,hf⟩
 by_cases h2:a.f2<z ∧ -262144<z∧z≤262144
 ·obtain⟨r',e,w⟩:=Z4x        a z hv hf h2.2 h2.1
  rw[e] at h;simp at h;subst h;exact⟨w.valid,w.fits⟩
 ·rw[Zb4       a z (by by_cases h3:z<a.f2;exact .inl h3;exact .inr ⟨h1,fun q=>h2 ⟨by omega,q⟩⟩)] at h
  simp at h
theorem Zbx (a r:Z1) (z e:Int) (hv:Z0l a) (hf:Fits a) (h:Z17.f a z=some (r,e)):e=0∨e=31:=by
 by_cases h1:z=a.f2
 ·subst h1;rw[Z47 a hv] at h;simp at h;exact .inl h.2.symm
 by_cases h2:a.f2<z ∧ -262144<z∧z≤262144
 ·obtain⟨r',e',w⟩:=Z4x        a z hv hf h2.2 h2.1
  rw[e'] at h;simp at h;exact .inl h.2.symm
 ·rw[Zb4       a z (by by_cases h3:z<a.f2;exact .inl h3;exact .inr ⟨h1,fun q=>h2 ⟨by omega,q⟩⟩)] at h
  simp at h;exact .inr h.2.symm
theorem Zb7 (p q p' q':Z1) (hp:Z0l p) (fp:Fits p) (hq:Z0l q) (fq:Fits q)
  (h:Z01.l0 (p.f0,p.f1,p.f2,p.f3,p.f4,p.f5,p.f6,p.f7,q.f0,q.f1,q.f2,q.f3,q.f4,q.f5,q.f6,q.f7)=some (.inr (p'.f0,p'.f1,p'.f2,p'.f3,p'.f4,p'.f5,p'.f6,p'.f7,q'.f0,q'.f1,q'.f2,q'.f3,q'.f4,q'.f5,q'.f6,q'.f7))) :
  Z1b.l0 (p.f0,p.f1,p.f2,p.f3,p.f4,p.f5,p.f6,p.f7,q.f0,q.f1,q.f2,q.f3,q.f4,q.f5,q.f6,q.f7)=some (p'.f0,p'.f1,p'.f2,p'.f3,p'.f4,p'.f5,p'.f6,p'.f7,q'.f0,q'.f1,q'.f2,q'.f3,q'.f4,q'.f5,q'.f6,q'.f7):=by
 refine Z01.l0.partial_correctness (motive:=fun v o=>∀ p q:Z1,v=(p.f0,p.f1,p.f2,p.f3,p.f4,p.f5,p.f6,p.f7,q.f0,q.f1,q.f2,q.f3,q.f4,q.f5,q.f6,q.f7)→Z0l p→Fits p→Z0l q→Fits q →
  o = .inr (p'.f0,p'.f1,p'.f2,p'.f3,p'.f4,p'.f5,p'.f6,p'.f7,q'.f0,q'.f1,q'.f2,q'.f3,q'.f4,q'.f5,q'.f6,q'.f7)→Z1b.l0 v=some (p'.f0,p'.f1,p'.f2,p'.f3,p'.f4,p'.f5,p'.f6,p'.f7,q'.f0,q'.f1,q'.f2,q'.f3,q'.f4,q'.f5,q'.f6,q'.f7)) ?_ _ _ h p q rfl hp fp hq fq rfl
 clear h hp fp hq fq p q;intro self ih v o H p q hv hp fp hq fq ho;subst hv;subst ho;dsimp only at H;rw[Z1b.l0];dsimp only;by_cases hz:p.f2=q.f2
 ·rw[if_neg (by simpa using hz)] at H ⊢
  simpa using H
 ·rw[if_pos (by simpa using hz)] at H ⊢
  obtain⟨⟨r1,e1⟩,w1,H⟩:=Z74 H;obtain⟨⟨r2,e2⟩,w2,H⟩:=Z74 H;dsimp only at H;have he:e1=0∧e2=0:=by
   rcases Zbx p r1 _ e1 hp fp w1 with h1 | h1<;>rcases Zbx q r2 _ e2 hq fq w2 with h2 | h2<;>subst h1<;>subst h2<;>simp at H ⊢
  obtain⟨rfl,rfl⟩:=he;rw[if_neg (by simp)] at H;have v1:=Zb3 p r1 _ hp fp w1;have v2:=Zb3 q r2 _ hq fq w2;have key:=ih _ _ H r1 r2 rfl v1.1 v1.2 v2.1 v2.2 rfl;by_cases hlt:p.f2<q.f2
  ·rw[if_pos (show q.f2>p.f2 from hlt)] at w1 w2
   rw[Z47 q hq] at w2;simp at w2;subst w2;obtain⟨r,e,g1,g2⟩:=ref_Widen p q.f2 hp fp;rw[w1] at g1;simp at g1;obtain⟨rfl,rfl⟩:=g1;rw[if_pos (by simpa using hlt),g2,sb,sb];exact key
  ·rw[if_neg (show ¬ q.f2>p.f2 from hlt)] at w1 w2
   rw[Z47 p hp] at w1;simp at w1;subst w1;obtain⟨r,e,g1,g2⟩:=ref_Widen q p.f2 hq fq;rw[w2] at g1;simp at g1;obtain⟨rfl,rfl⟩:=g1;rw[if_neg (by simpa using hlt),g2,sb,sb];exact key
theorem ref_Alike (a b:Z1) (ha:Z0l a) (fa:Fits a) (hb:Z0l b) (fb:Fits b):∃ p q,Z01.f a b=some (p,q,0)∧Z1b.f a b=some (p,q)∧Z0l p∧Z0l q∧p.f2=q.f2∧p.f1=q.f1:=by
 have hs:Z0v (if b.f1<a.f1 then b.f1 else a.f1):=by split;exact hb.schema;exact ha.schema
 obtain⟨p0,e1,c1⟩:=Down_eq a _ ha fa hs (by split<;>omega);obtain⟨q0,e2,c2⟩:=Down_eq b _ hb fb hs (by split<;>omega);have c1':=c1;have c2':=c2;rw[← c1.zeroAt] at c1';rw[← c2.zeroAt] at c2';obtain⟨p,q,z,el,cp,cq,hz⟩:=Zbw a b p0 q0 _ _ _ c1' c2';refine⟨p,q,?_,?_,cp.valid,cq.valid,cp.zeroAt.trans cq.zeroAt.symm,cp.schema.trans cq.schema.symm⟩
 ·unfold          Z01.f
  rw[e1,sb,e2,sb,if_neg (by simp)]
  (try simp only[])
  rw[el];rfl
 ·have rl:=Zb7            p0 q0 p q c1.valid c1.fits c2.valid c2.fits el
  obtain⟨r1,g1,d1,d2⟩:=ref_Down a (if b.f1<a.f1 then b.f1 else a.f1) ha fa;obtain⟨r2,g2,d3,d4⟩:=ref_Down b (if b.f1<a.f1 then b.f1 else a.f1) hb fb;rw[e1] at d1;simp at d1;obtain⟨rfl,rfl⟩:=d1;rw[e2] at d3;simp at d3;obtain⟨rfl,rfl⟩:=d3;unfold Z1b.f;by_cases hlt:a.f1<b.f1
  ·rw[if_neg (show ¬ b.f1<a.f1 by omega)] at d2 d4
   rw[if_pos (by simpa using hlt),d4,sb,d2,sb,sb];dsimp only;rw[rl];rfl
  ·by_cases hlt2:b.f1<a.f1
   ·rw[if_pos hlt2] at d2 d4
    rw[if_neg (by simpa using hlt),d2,sb,d4,sb,sb];dsimp only;rw[rl];rfl
   ·have heq:a.f1=b.f1:=by omega
    rw[if_neg hlt2] at d2 d4;rw[if_neg (by simpa using hlt),← heq,d2,sb,d4,sb,sb];dsimp only;rw[rl];rfl
end Go.Proofs.YtcilcefjcaimoaaGreat.PvGQ
