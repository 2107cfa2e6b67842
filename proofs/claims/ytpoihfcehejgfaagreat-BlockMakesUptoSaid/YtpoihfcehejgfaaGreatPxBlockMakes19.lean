import Derived.Test.YtpoihfcehejgfaaGreatPxBlockMakes18
set_option linter.unusedVariables false
set_option linter.unusedSimpArgs false
set_option maxRecDepth 10000
namespace Go.Proofs.YtpoihfcehejgfaaGreat.PvGS
open Go Go.Pv Go.Pv.GS Go.IntKind
theorem mgetp {K V:Type} [DecidableEq K] (k k':K) (v:V):∀ (l:List (K×V)),mget (mput l k v) k'=if k=k' then some v else mget l k'
 | []=>by simp[mput,mget]
 | p::l=>by
  rw[mput];by_cases c:p.1=k
  ·rw[if_pos c,mget,mget]
   by_cases d:k=k'
   ·simp[d]
   ·simp[d,c]
  ·rw[if_neg c,mget,mget,mgetp k k' v l]
   by_cases d:k=k'
   ·subst d;simp[c]
   ·simp[d]
theorem mput_keys {K V:Type} [DecidableEq K] (k:K) (v:V):∀ (l:List (K×V)) (x:K),x∈(mput l k v).map (·.1)↔x=k∨x∈l.map (·.1)
 | [],x=>by simp[mput]
 | p::l,x=>by
  rw[mput];by_cases c:p.1=k
  ·rw[if_pos c,List.map_cons,List.map_cons,List.mem_cons,List.mem_cons,c]
   constructor
   ·rintro(h | h)
    ·exact .inl h
    ·exact .inr (.inr h)
   ·rintro(h | h | h)
    ·exact .inl h
    ·exact .inl h
    ·exact .inr h
  ·rw[if_neg c,List.map_cons,List.map_cons,List.mem_cons,List.mem_cons,mput_keys k v l x]
   constructor
   ·rintro(h | h | h)
    ·exact .inr (.inl h)
    ·exact .inl h
    ·exact .inr (.inr h)
   ·rintro(h | h | h)
    ·exact .inr (.inl h)
    ·exact .inl h
    ·exact .inr (.inr h)
theorem Z8u {K V:Type} [DecidableEq K] (k:K) (v:V):∀ (l:List (K×V)),(l.map (·.1)).Nodup→((mput l k v).map (·.1)).Nodup
 | [],_=>by simp[mput]
 | p::l,h=>by
  rw[List.map_cons,List.nodup_cons] at h;rw[mput];by_cases c:p.1=k
  ·rw[if_pos c,List.map_cons,List.nodup_cons,← c];exact h
  ·rw[if_neg c,List.map_cons,List.nodup_cons]
   refine⟨fun hm => ?_,Z8u k v l h.2⟩;rcases(mput_keys k v l p.1).1 hm with h1 | h1
   ·exact c h1
   ·exact h.1 h1
theorem Z6v {K V:Type} [DecidableEq K]:∀ (l:List (K×V)),(l.map (·.1)).Nodup→∀ k v,mget l k=some v↔(k,v)∈l
 | [],_,k,v=>by simp[mget]
 | p::l,h,k,v=>by
  rw[List.map_cons,List.nodup_cons] at h;rw[mget,List.mem_cons];by_cases c:p.1=k
  ·rw[if_pos c]
   constructor
   ·intro e;left;obtain rfl:=Option.some.inj e;rw[← c]
   ·rintro(e | e)
    ·rw[← e]
    ·exact absurd (List.mem_map.2 ⟨_,e,rfl⟩) (c ▸ h.1)
  ·rw[if_neg c,Z6v      l h.2]
   constructor
   ·exact .inr
   ·rintro(e | e)
    ·exact absurd (by rw[← e]) c
    ·exact e
theorem rise_uniq {α:Type} {lt:α→α→Prop} (irr:∀ a,¬ lt a a) (asy:∀ a b,lt a b→¬ lt b a) {a b:List α} (ha:a.Pairwise lt) (hb:b.Pairwise lt) (h:∀ x,x∈a↔x∈b):a=b:=by
 have key:∀ x y:α,lt x y→x≠y:=fun x y h e=>irr x (by rw[← e] at h;exact h)
 have na:a.Nodup:=ha.imp (fun {x y} h=>key x y h);have nb:b.Nodup:=hb.imp (fun {x y} h=>key x y h);exact List.Perm.eq_of_pairwise (fun x y _ _ h1 h2=>absurd h2 (asy x y h1)) ha hb ((List.perm_ext_iff_of_nodup na nb).2 h)
theorem Z9q {α:Type} [DecidableEq α]:∀ (a b:List α),a.Nodup→(∀ x∈a,x∈b)→a.length≤b.length
 | [],_,_,_=>Nat.zero_le _
 | x::a,b,h,hs=>by
  obtain⟨h1,h2⟩:=List.nodup_cons.1 h;have hx:=hs x (by simp);have:=Z9q a (b.erase x) h2 (fun y hy=>(List.mem_erase_of_ne (fun e=>h1 (by rw[← e];exact hy))).2 (hs y (by simp[hy])));rw[List.length_erase_of_mem hx] at this;have:=List.length_pos_of_mem hx;simp only[List.length_cons];omega
def lowT (k t:Int):Int:=t-t % wide k
def Z2l (k lo:Int) (l:List Zi):List Zi:=l.filter fun s=>decide (lowT k s.f0=lo)
def Z1z (key:ByteArray) (ss:List Zi):List Z2:=if ss.isEmpty=true then [] else [⟨key,ss⟩]
def Z3a (k lo:Int) (l:List Z2):List Z2:=l.flatMap fun r=>Z1z r.f0 (Z2l k lo r.f1)
def Z75 (k lo:Int) (l:List Z2):Z5:=⟨⟨lo,lo+wide k,k⟩,Z3a k lo l⟩
theorem Z53 (k lo:Int) (l:List Z2) (key:ByteArray) (ss:List Zi):Z3a k lo (l++[⟨key,ss⟩])=Z3a k lo l++Z1z key (Z2l k lo ss):=by simp[Z3a]
theorem atLow_nil (k lo:Int) (l:List Z2) (key:ByteArray):Z3a k lo (l++[⟨key,[]⟩])=Z3a k lo l:=by rw[Z53];simp[Z2l,Z1z]
theorem Z3r {k lo:Int} {l:List Z2} {q:Z2}:q∈Z3a k lo l↔∃ r∈l,q.f0=r.f0∧q.f1=Z2l k lo r.f1∧q.f1≠[]:=by
 unfold Z3a;rw[List.mem_flatMap];constructor
 ·rintro⟨r,hr,h⟩
  unfold Z1z at h;by_cases c:(Z2l k lo r.f1).isEmpty=true
  ·rw[if_pos c] at h;simp at h
  ·rw[if_neg c] at h
   obtain rfl:=List.mem_singleton.1 h;exact⟨r,hr,rfl,rfl,by simpa using c⟩
 ·rintro⟨r,hr,h1,h2,h3⟩
  refine⟨r,hr,?_⟩;unfold Z1z;rw[if_neg (by rw[← h2];simpa using h3),← h1,← h2];exact List.mem_singleton.2 rfl
theorem Z8c (k lo:Int):∀ l:List Z2,(Z3a k lo l).length≤l.length
 | []=>by simp[Z3a]
 | r::l=>by
  have:=Z8c k lo l;have e:Z3a k lo (r::l)=Z1z r.f0 (Z2l k lo r.f1)++Z3a k lo l:=by simp[Z3a]
  rw[e,List.length_append,List.length_cons];have:(Z1z r.f0 (Z2l k lo r.f1)).length≤1:=by unfold Z1z;split<;>simp
  omega
theorem add_new {mt:Z2m} {rows:List Z2} {key:ByteArray} {s:Zi} (h:∀ r∈rows,r.f0≠key) (hl:rows.length≤1000000):Zf.add ⟨mt,rows⟩ key s=some ⟨mt,rows++[⟨key,[s]⟩]⟩:=by
 unfold Zf.add;rcases List.eq_nil_or_concat rows with rfl | ⟨Q,q,rfl⟩
 ·rfl
 ·rw[List.concat_eq_append] at *
  have e:(Q++[q]).getLast? = some q:=by simp
  simp only[e];have hq:¬ (q.f0.toList==key.toList)=true:=by
   rw[eqB];have:=h q (by simp);simpa using this
  rw[chkB (by simp only[List.length_append,List.length_cons,List.length_nil] at *;omega),if_neg hq]
theorem add_old {mt:Z2m} {Q:List Z2} {key:ByteArray} {ss:List Zi} {s:Zi} (hl:Q.length≤1000000) (hs:ss.length≤1000000):Zf.add ⟨mt,Q++[⟨key,ss⟩]⟩ key s=some ⟨mt,Q++[⟨key,ss++[s]⟩]⟩:=by
 unfold Zf.add;have e:(Q++[(⟨key,ss⟩:Z2)]).getLast? = some ⟨key,ss⟩:=by simp
 simp only[e];rw[chkB (by simp only[List.length_append,List.length_cons,List.length_nil] at *;omega),if_pos (by simp),chkB (by omega),List.dropLast_concat]
structure MRep (k:Int) (L:List Z2) (m:List (Int×Z5)):Prop where
 nodup:(m.map (·.1)).Nodup
 get:∀ lo,mget m lo=if(Z3a k lo L).isEmpty=true then none else some (Z75 k lo L)
theorem MRep.congr {k:Int} {L L':List Z2} {m:List (Int×Z5)} (h:MRep k L m) (e:∀ lo,Z3a k lo L=Z3a k lo L'):MRep k L' m :=
 ⟨h.nodup,fun lo=>by rw[h.get lo];unfold Z75;rw[e lo]⟩
theorem new_eq {k lo:Int} (h0:0≤k) (h4:k≤4) (hl:0≤lo) (hh:lo<4611686018427387904):Zf.new k lo=⟨⟨lo,lo+wide k,k⟩,[]⟩:=by
 have hw:=Z5w k;have e:Zf.new k lo=⟨⟨lo,i64.wrap (lo+Zf.wd k),(if(if(4:Int)<k then(4:Int) else k)>(0:Int) then(if(4:Int)<k then(4:Int) else k) else(0:Int))⟩,[]⟩:=rfl;rw[e,wd_eq h0 h4,Z0b (by omega) (by omega)];have:(if(if(4:Int)<k then(4:Int) else k)>(0:Int) then(if(4:Int)<k then(4:Int) else k) else(0:Int))=k:=by
  split<;>split<;>omega
 rw[this]
theorem Z7k {k t:Int} (ht:0≤t):0≤lowT k t∧lowT k t≤t∧t<lowT k t+wide k∧lowT k t % wide k=0:=by
 have hw:=Z5w k;have h1:=Int.emod_nonneg t (b:=wide k) (by omega);have h2:=Int.emod_lt_of_pos t (b:=wide k) hw.1;have h3:=Int.mul_ediv_add_emod t (wide k);have h4:0≤wide k*(t / wide k):=Int.mul_nonneg (by omega) (Int.ediv_nonneg ht (by omega));unfold lowT;refine⟨by omega,by omega,by omega,?_⟩;rw[show t-t % wide k=wide k*(t / wide k) by omega];exact Int.mul_emod_right _ _
theorem lowT_mono {k a b:Int} (h:lowT k a<lowT k b) (ha:0≤a) (hb:0≤b):a<b:=by
 have hw:=Z5w k;by_cases c:a<b
 ·exact c
 ·exfalso
  have h1:=Int.ediv_le_ediv (a:=b) (b:=a) hw.1 (by omega);have e1:lowT k a=wide k*(a / wide k):=by have:=Int.mul_ediv_add_emod a (wide k);unfold lowT;omega
  have e2:lowT k b=wide k*(b / wide k):=by have:=Int.mul_ediv_add_emod b (wide k);unfold lowT;omega
  have h2:wide k*(b / wide k)≤wide k*(a / wide k):=Int.mul_le_mul_of_nonneg_left h1 (by omega);omega
theorem mk_step {k:Int} (h0:0≤k) (h4:k≤4) {L:List Z2} {key:ByteArray} {pre:List Zi} {s:Zi} {m:List (Int×Z5)} (hm:MRep k (L++[⟨key,pre⟩]) m) (hk:∀ r∈L,r.f0≠key) (hL:L.length≤100000) (hp:pre.length≤1000000) (ht:0≤s.f0∧s.f0<4611686018427387904):∃ bk,Zf.add ((mget m (lowT k s.f0)).getD (Zf.new k (lowT k s.f0))) key s=some bk∧MRep k (L++[⟨key,pre++[s]⟩]) (mput m (lowT k s.f0) bk):=by
 generalize hlo:lowT k s.f0=lo;have hb:=Z7k (k:=k) ht.1;rw[hlo] at hb;have hself:Z2l k lo (pre++[s])=Z2l k lo pre++[s]:=by simp[Z2l,hlo]
 have hoth:∀ lo',lo'≠lo→Z2l k lo' (pre++[s])=Z2l k lo' pre:=fun lo' hne=>by
  unfold Z2l;rw[List.filter_append];have:decide (lowT k s.f0=lo')=false:=decide_eq_false (fun h=>hne (h.symm.trans hlo));simp[this]
 have hbk:(mget m lo).getD (Zf.new k lo)=Z75 k lo (L++[⟨key,pre⟩]):=by
  rw[hm.get lo];by_cases c:(Z3a k lo (L++[⟨key,pre⟩])).isEmpty=true
  ·rw[if_pos c,Option.getD_none,new_eq h0 h4 hb.1 (by omega)]
   unfold Z75;rw[List.isEmpty_iff.1 c]
  ·rw[if_neg c];rfl
 have hLk:∀ r∈Z3a k lo L,r.f0≠key:=fun q hq=>by
  obtain⟨r,hr,h1,_⟩:=Z3r.1 hq;rw[h1];exact hk r hr
 have hll:=Z8c k lo L;have hadd:Zf.add (Z75 k lo (L++[⟨key,pre⟩])) key s=some (Z75 k lo (L++[⟨key,pre++[s]⟩])):=by
  unfold Z75;rw[Z53,Z53,hself];by_cases c:(Z2l k lo pre).isEmpty=true
  ·have e:=List.isEmpty_iff.1 c
   rw[e,show Z1z key []=[] from rfl,List.append_nil,add_new hLk (by omega)];rfl
  ·have e1:Z1z    key (Z2l   k lo pre)=[⟨key,Z2l   k lo pre⟩]:=if_neg c
   have e2:Z1z key (Z2l k lo pre++[s])=[⟨key,Z2l k lo pre++[s]⟩]:=if_neg (by simp);have e3:(Z2l k lo pre).length≤pre.length:=List.length_filter_le _ _;rw[e1,e2,add_old (by omega) (by omega)]
 refine⟨_,by rw[hbk];exact hadd,Z8u _ _ _ hm.nodup,fun lo' => ?_⟩;rw[mgetp];by_cases c:lo=lo'
 ·subst c
  rw[if_pos rfl,if_neg];rw[Z53,hself];have e2:Z1z key (Z2l k lo pre++[s])=[⟨key,Z2l k lo pre++[s]⟩]:=if_neg (by simp);rw[e2];simp
 ·rw[if_neg c,hm.get lo']
  have e:Z3a k lo' (L++[⟨key,pre++[s]⟩])=Z3a k lo' (L++[⟨key,pre⟩]):=by rw[Z53,Z53,hoth lo' (fun h=>c h.symm)]
  unfold Z75;rw[e]
structure MkIn (l:List Z2):Prop where
 len:l.length≤1000
 smp:∀ r∈l,r.f1.length≤1000000∧∀ s∈r.f1,0≤s.f0∧s.f0<4611686018427387904
 keys:l.Pairwise fun a b=>a.f0≠b.f0
theorem mk_l1 {k:Int} (h0:0≤k) (h4:k≤4) {L:List Z2} {b:Z2} (hk:∀ r∈L,r.f0≠b.f0) (hL:L.length≤100000) (hp:b.f1.length≤1000000) (ht:∀ s∈b.f1,0≤s.f0∧s.f0<4611686018427387904) :
  ∀ (suf pre:List Zi) (m:List (Int×Z5)) (i:Int),b.f1=pre++suf→i=(pre.length:Int)→MRep k (L++[⟨b.f0,pre⟩]) m→∃ y,Zf.l1 k b m i=some y∧MRep k (L++[⟨b.f0,b.f1⟩]) y:=by
 intro suf
 induction suf with
 | nil =>
  intro pre m i h1 hi hm;rw[List.append_nil] at h1;rw[Zf.l1,if_neg (by rw[h1];simp[hi])];exact⟨m,rfl,by rw[h1];exact hm⟩
 | cons s suf ih =>
  intro pre m i h1 hi hm;have hlen:b.f1.length=pre.length+(suf.length+1):=by rw[h1];simp
  have hs:=ht s (by rw[h1];simp);obtain⟨bk,e1,e2⟩:=mk_step h0 h4 hm hk hL (by omega) hs;have elo:Zf.lo k s.f0=lowT k s.f0:=lo_eq h0 h4 hs.1 (by omega);rw[Zf.l1,if_pos (by simp;omega),Z1s h1 hi,sb,low_ok h0 h4,sb,width_ok h0 h4,sb,elo,e1,sb,Z0b (by omega) (by omega)];exact ih (pre++[s]) _ (i+1) (by simp[h1]) (by simp;omega) e2
theorem mk_l0 {k:Int} (h0:0≤k) (h4:k≤4) {l:List Z2} (hin:MkIn l):∀ (suf pre:List Z2) (m:List (Int×Z5)) (i:Int),l=pre++suf→i=(pre.length:Int)→MRep k pre m→∃ y,Zf.l0 k l m i=some y∧MRep k l y:=by
 intro suf
 induction suf with
 | nil =>
  intro pre m i h1 hi hm;rw[List.append_nil] at h1;rw[Zf.l0,if_neg (by rw[h1];simp[hi])];exact⟨m,rfl,by rw[h1];exact hm⟩
 | cons r suf ih =>
  intro pre m i h1 hi hm;have hlen:l.length=pre.length+(suf.length+1):=by rw[h1];simp
  have hl:=hin.len;have hr:=hin.smp r (by rw[h1];simp);have hk:∀ q∈pre,q.f0≠r.f0:=fun q hq=>by
   have:=hin.keys;rw[h1] at this;exact(List.pairwise_append.1 this).2.2 q hq r (by simp)
  obtain⟨y,e1,e2⟩:=mk_l1 h0 h4 (L:=pre) (b:=r) hk (by omega) hr.1 hr.2 r.f1 [] m 0 rfl rfl (hm.congr (fun lo=>(atLow_nil k lo pre r.f0).symm));rw[Zf.l0,if_pos (by simp;omega),Z1s h1 hi,sb,e1,sb,Z0b (by omega) (by omega)];exact ih (pre++[r]) y (i+1) (by simp[h1]) (by simp;omega) e2
theorem bsort_inst:Zz.f=GS.SortF.f Z0l.f:=by kernel_rfl
def lowLt (a b:Z5):Bool:=decide (a.f0.f0<b.f0.f0)
theorem lowLt_swo:SWO lowLt:=⟨fun a b h=>by simp[lowLt] at *;omega,fun a b c h1 h2=>by simp[lowLt] at *;omega⟩
theorem compare64 (a b:Int):Z0x.f a b=some (if a<b then -1 else if a>b then 1 else 0):=by
 unfold Z0x.f;have hn:∀ x,Z24.f x=some ():=fun x=>rfl
 simp only[hn,sb];by_cases c1:a<b
 ·rw[if_pos c1];simp[c1]
 ·rw[if_neg c1]
  by_cases c2:a>b
  ·rw[if_pos c2];simp[c1,c2]
  ·rw[if_neg c2];simp[c1,c2]
theorem lowCmp:Cmp Z0l.f lowLt:=fun a b=>by
 unfold Z0l.f;rw[compare64,sb];by_cases c1:a.f0.f0<b.f0.f0
 ·exact⟨-1,by rw[if_pos c1],by simp[lowLt,c1]⟩
 ·rw[if_neg c1]
  by_cases c2:a.f0.f0>b.f0.f0
  ·exact⟨1,by rw[if_pos c2],by simp[lowLt,c1]⟩
  ·exact⟨0,by rw[if_neg c2],by simp[lowLt,c1]⟩
structure Made (k:Int) (l:List Z2) (B:List Z5):Prop where
 mem:∀ b,b∈B↔∃ lo,Z3a k lo l≠[]∧b=Z75 k lo l
 up:B.Pairwise fun a b=>a.f0.f0<b.f0.f0
theorem Made.uniq {k:Int} {l:List Z2} {B C:List Z5} (hB:Made k l B) (hC:Made k l C):B=C :=
 rise_uniq (fun a h=>by omega) (fun a b h=>by omega) hB.up hC.up (fun x=>by rw[hB.mem,hC.mem])
theorem made_of {k:Int} {l:List Z2} {y:List (Int×Z5)} (hy:MRep k l y) {p:List (Int×Z5)} (hp:p.Perm y) {r:List Z5} (h1:r.Perm (p.map (·.2))) (h2:r.Pairwise fun a b=>lowLt b a=false):Made k l r:=by
 have hmem:∀ b,b∈r↔∃ lo,Z3a k lo l≠[]∧b=Z75 k lo l:=fun b=>by
  rw[h1.mem_iff,(hp.map _).mem_iff,List.mem_map];constructor
  ·rintro⟨⟨lo,x⟩,hx,rfl⟩
   have h3:=(Z6v y hy.nodup lo x).2 hx;rw[hy.get lo] at h3;by_cases c:(Z3a k lo l).isEmpty=true
   ·rw[if_pos c] at h3;cases h3
   ·rw[if_neg c] at h3
    exact⟨lo,by simpa using c,(Option.some.inj h3).symm⟩
  ·rintro⟨lo,h3,rfl⟩
   refine⟨(lo,Z75 k lo l),(Z6v y hy.nodup lo _).1 ?_,rfl⟩;rw[hy.get lo,if_neg (by simpa using h3)]
 refine⟨hmem,?_⟩;have hnd:(r.map fun b=>b.f0.f0).Nodup:=by
  have e:(y.map (·.2)).map (fun b=>b.f0.f0)=y.map (·.1):=by
   rw[List.map_map];refine List.map_congr_left (fun q hq => ?_);have h3:=(Z6v y hy.nodup q.1 q.2).2 hq;rw[hy.get q.1] at h3;by_cases c:(Z3a k q.1 l).isEmpty=true
   ·rw[if_pos c] at h3;cases h3
   ·rw[if_neg c] at h3
    show q.2.f0.f0=q.1;rw[← Option.some.inj h3];rfl
  have h5:(r.map fun b=>b.f0.f0).Perm (y.map (·.1)):=by rw[← e];exact(h1.trans (hp.map _)).map _
  exact h5.nodup_iff.2 hy.nodup
 rw[List.Nodup,List.pairwise_map] at hnd;refine(h2.and hnd).imp (fun {a b} h => ?_);obtain⟨h3,h4⟩:=h;simp[lowLt] at h3;have:a.f0.f0≠b.f0.f0:=h4;omega
theorem make_spec {k:Int} (h0:0≤k) (h4:k≤4) {l:List Z2} (hin:MkIn l) (hs:(l.map fun r=>r.f1.length).sum≤100000):∃ B,Zf.f k l=some B∧Made k l B:=by
 obtain⟨y,e1,hy⟩:=mk_l0 h0 h4 hin l [] [] 0 rfl rfl ⟨by simp,fun lo=>rfl⟩;have hcnt:y.length≤(l.flatMap fun r=>r.f1.map fun s=>lowT k s.f0).length:=by
  have hsub:∀ lo∈y.map (·.1),lo∈l.flatMap fun r=>r.f1.map fun s=>lowT k s.f0:=fun lo hlo=>by
   obtain⟨⟨lo',b⟩,hq,rfl⟩:=List.mem_map.1 hlo;have h3:=(Z6v y hy.nodup lo' b).2 hq;rw[hy.get lo'] at h3;by_cases c:(Z3a k lo' l).isEmpty=true
   ·rw[if_pos c] at h3;cases h3
   ·obtain⟨x,hx⟩:=List.exists_mem_of_ne_nil _ (show Z3a   k lo' l≠[] by simpa using c)
    obtain⟨r,hr,g1,g2,g3⟩:=Z3r.1 hx;obtain⟨s,hs⟩:=List.exists_mem_of_ne_nil _ g3;rw[g2] at hs;have hs2:=List.mem_filter.1 hs;exact List.mem_flatMap.2 ⟨r,hr,List.mem_map.2 ⟨s,hs2.1,by simpa using hs2.2⟩⟩
  have:=Z9q _ _ hy.nodup hsub;rw[List.length_map] at this;exact this
 have hcnt2:y.length≤100000:=by
  have e:(l.flatMap fun r=>r.f1.map fun s=>lowT k s.f0).length=(l.map fun r=>r.f1.length).sum:=by simp[List.length_flatMap]
  omega
 obtain⟨B,b1,b2,b3⟩:=GS.sortF lowCmp lowLt_swo (y.map (·.2)) (by simp;omega);have hB:=made_of hy (.refl _) b2 b3;refine⟨B,?_,hB⟩;unfold Zf.f;rw[e1,sb,chkB (by omega)];have hr:rchk (fun(p:List (Int×Z5)) (_:Unit)=>Zz.f (p.map (·.2))) y ()=some B:=rchk_eq fun p hp=>by
  obtain⟨C,c1,c2,c3⟩:=GS.sortF lowCmp lowLt_swo (p.map (·.2)) (by have:=hp.length_eq;simp;omega);rw[bsort_inst,c1,(made_of hy hp c2 c3).uniq hB]
 rw[hr,sb]
noncomputable def Z8n:Option ByteArray→List Z2→Bool
 | _,[]=>true
 | p,r::l=>(keyB r.f0&&behK p r.f0&&rise none r.f1 && !r.f1.isEmpty)&&Z8n (some r.f0) l
theorem rows16_l0 (l:List Z2) (hl:l.length<1000000000) (hb:∀ r∈l,RowB r):∀ (suf pre:List Z2) (i:Int),l=pre++suf→i=(pre.length:Int)→Z2j.l0 l i=some (if Z8n (Z82 pre) suf=true then .inr () else .inl false):=by
 intro suf
 induction suf with
 | nil=>intro pre i h1 hi;rw[Z2j.l0,if_neg (by rw[h1];simp[hi])];rfl
 | cons r suf ih =>
  intro pre i h1 hi;have hlen:l.length=pre.length+(suf.length+1):=by rw[h1];simp
  have hr:=hb r (by rw[h1];simp);have hlast:(((Z16.f r.f1)>>=fun t524=>if(!t524)=true then(some true) else(some ((r.f1.length:Int)==(0:Int)))):Option Bool)=some (!(rise none r.f1 && !r.f1.isEmpty)):=by
   rw[rris_eq r.f1 (by have:=hr.n;omega) hr.f,sb];cases rise none r.f1 with
   | false=>rfl
   | true =>
    rw[if_neg (by simp)]
    match r.f1 with
    | []=>rfl
    | a::m=>congr 1
  have hstep:((if(decide (i>(0:Int)))=true then((at? l (i64.wrap (i-(1:Int))))>>=fun b520=>if(!Op.bytesLess b520.f0.toList r.f0.toList)=true then(some true) else((Z16.f r.f1)>>=fun t524=>if(!t524)=true then(some true) else(some ((r.f1.length:Int)==(0:Int))))) else((Z16.f r.f1)>>=fun t527=>if(!t527)=true then(some true) else(some ((r.f1.length:Int)==(0:Int))))):Option Bool)=some (!(behK (Z82 pre) r.f0&&(rise none r.f1 && !r.f1.isEmpty))):=by
   rw[hlast];rcases List.eq_nil_or_concat pre with rfl | ⟨Q,q,rfl⟩
   ·rw[if_neg (by simp[hi])];rfl
   ·rw[List.concat_eq_append] at *
    have hi3:i=(Q.length:Int)+1:=by rw[hi];simp
    rw[if_pos (decide_eq_true (by omega)),Z0b (n:=i-1) (by omega) (by omega),Z6x];rw[show at? l (i-1)=some q from Z1s (pre:=Q) (suf:=r::suf) (by rw[h1];simp) (by omega),sb];show(if(!bl q.f0 r.f0)=true then _ else _)=some (!(bl q.f0 r.f0&&_));cases bl q.f0 r.f0 with
    | false=>rfl
    | true=>rw[if_neg (by simp),Bool.true_and]
  have e:Z8n (Z82 pre) (r::suf)=((keyB r.f0&&(behK (Z82 pre) r.f0&&(rise none r.f1 && !r.f1.isEmpty)))&&Z8n (some r.f0) suf):=by rw[Z8n];simp only[Bool.and_assoc]
  rw[Z2j.l0,if_pos (by simp;omega),Z1s h1 hi,sb,rkey15 r.f0 hr.k,sb,hstep,e];cases keyB r.f0 with
  | false=>rfl
  | true =>
   rw[if_neg (by simp),sb];cases (behK (Z82 pre) r.f0&&(rise none r.f1 && !r.f1.isEmpty)) with
   | false=>rfl
   | true =>
    rw[if_neg (by simp),Z0b (by omega) (by omega),ih (pre++[r]) (i+1) (by simp[h1]) (by simp;omega),Z6x];rfl
theorem rows16 (l:List Z2) (hl:l.length<1000000000) (hb:∀ r∈l,RowB r):Z2j.f l=some (Z8n none l&&decide (l.length≤64)):=by
 unfold Z2j.f;rw[rows16_l0 l hl hb l [] 0 rfl rfl,sb];show(match (if Z8n none l=true then(.inr ():Bool ⊕ Unit) else .inl false) with | .inl rr=>(some rr) | .inr _=>_)=_;cases Z8n none l with
 | false=>rfl
 | true =>
  rw[if_pos rfl,Bool.true_and];show some (decide _)=some (decide _);congr 1;by_cases c:l.length≤64
  ·rw[decide_eq_true c,decide_eq_true (by omega)]
  ·rw[decide_eq_false c,decide_eq_false (by omega)]
theorem rowsB_ok:∀ (l:List Z2) (p:Option ByteArray),Z8n p l=true→(∀ r∈l,keyB r.f0=true∧rise none r.f1=true∧r.f1≠[])∧l.Pairwise (fun r q=>bl r.f0 q.f0=true)∧∀ k,p=some k→∀ r∈l,bl k r.f0=true
 | [],p,_=>by simp
 | r::l,p,h=>by
  rw[Z8n] at h;simp only[Bool.and_eq_true,Bool.not_eq_true',List.isEmpty_eq_false_iff] at h;obtain⟨⟨⟨⟨h1,h2⟩,h3⟩,h4⟩,h5⟩:=h;obtain⟨g1,g2,g3⟩:=rowsB_ok l _ h5;refine⟨fun x hx => ?_,List.pairwise_cons.2 ⟨fun x hx=>g3 _ rfl x hx,g2⟩,fun k hk x hx => ?_⟩
  ·rcases List.mem_cons.1 hx with rfl | hx
   ·exact⟨h1,h3,h4⟩
   ·exact g1 x hx
  ·subst hk
   have hb:bl k r.f0=true:=h2;rcases List.mem_cons.1 hx with rfl | hx
   ·exact hb
   ·exact Z74 _ _ _ hb (g3 _ rfl x hx)
theorem tsort_inst:Z1a.f=GS.SortF.f Z0w.f:=by kernel_rfl
abbrev Z3s (r:Z4):Prop:=0≤r.f0∧r.f0≤r.f1∧r.f1≤1099511627776
def HasL (l:List Z4) (t:Int):Prop:=∃ r∈l,Z3s r∧r.f0≤t∧t≤r.f1
structure Z96 (l:List Z4):Prop where
 right:∀ r∈l,Z3s r
 gapT:l.Pairwise (fun a b=>a.f1+1<b.f0)
theorem hasL_nil (t:Int):¬ HasL [] t:=by rintro⟨r,h,_⟩;simp at h
theorem Z6n (r:Z4) (l:List Z4) (t:Int):HasL (r::l) t↔(Z3s r∧r.f0≤t∧t≤r.f1)∨HasL l t:=by
 unfold HasL;simp
theorem Z63 (a b:List Z4) (t:Int):HasL (a++b) t↔HasL a t∨HasL b t:=by
 induction a with
 | nil=>simp[hasL_nil]
 | cons x a ih=>rw[List.cons_append,Z6n,Z6n,ih,or_assoc]
theorem hasL_perm {a b:List Z4} (h:a.Perm b) (t:Int):HasL a t↔HasL b t:=by
 unfold HasL;constructor
 ·rintro⟨r,hr,x⟩;exact⟨r,h.mem_iff.1 hr,x⟩
 ·rintro⟨r,hr,x⟩;exact⟨r,h.mem_iff.2 hr,x⟩
theorem hasL_filter (l:List Z4) (t:Int) (p:Z4→Bool) (hp:∀ r,Z3s r→p r=true):HasL (l.filter p) t↔HasL l t:=by
 unfold HasL;constructor
 ·rintro⟨r,hr,x⟩;exact⟨r,(List.mem_filter.1 hr).1,x⟩
 ·rintro⟨r,hr,x⟩;exact⟨r,List.mem_filter.2 ⟨hr,hp r x.1⟩,x⟩
theorem Z96.nil:Z96 []:=⟨by simp,List.Pairwise.nil⟩
theorem apart_concat {l:List Z4} {x:Z4} (h:Z96 (l++[x])):Z96 l∧Z3s x∧∀ r∈l,r.f1+1<x.f0:=by
 have g:=List.pairwise_append.1 h.gapT;exact⟨⟨fun r hr=>h.right r (by simp[hr]),g.1⟩,h.right x (by simp),fun r hr=>g.2.2 r hr x (by simp)⟩
theorem Zbq {l:List Z4} {x:Z4} (h:Z96 l) (hx:Z3s x) (hg:∀ r∈l,r.f1+1<x.f0):Z96 (l++[x]) :=
 ⟨fun r hr => by rcases List.mem_append.1 hr with hr | hr; exact h.right r hr; simp at hr; rw [hr]; exact hx,
  List.pairwise_append.2 ⟨h.gapT,List.pairwise_singleton _ _,fun a ha b hb=>by simp at hb;rw[hb];exact hg a ha⟩⟩
def rLt (a b:Z4):Bool:=decide (a.f0<b.f0)||(decide (a.f0=b.f0)&&decide (a.f1<b.f1))
theorem rLt_swo:SWO rLt:=⟨fun a b h=>by simp[rLt] at *;omega,fun a b c h1 h2=>by simp[rLt] at *;omega⟩
theorem Z7m (a b:Int):Z0x.f a b=some (if a<b then -1 else if a>b then 1 else 0):=by
 unfold Z0x.f Z24.f;by_cases h1:a<b
 ·simp[h1]
 ·by_cases h2:b<a
  ·simp[h1,h2]
  ·simp[h1,h2]
theorem or2 (a b:Int):Z25.f [a,b]=some (if a≠0 then a else b):=by
 have w1:i64.wrap ((0:Int)+1)=1:=by decide
 have w2:i64.wrap ((1:Int)+1)=2:=by decide
 unfold Z25.f;rw[Z25.l0,if_pos (by simp),show at? [a,b] 0=some a from rfl,sb];by_cases ha:a=0
 ·subst ha
  rw[if_neg (by simp),w1,Z25.l0,if_pos (by simp),show at? [0,b] 1=some b from rfl,sb];by_cases hb:b=0
  ·subst hb
   rw[if_neg (by simp),w2,Z25.l0,if_neg (by simp)];rfl
  ·rw[if_pos (by simpa using hb)];simp[hb]
 ·rw[if_pos (by simpa using ha)];simp[ha]
theorem rCmp:Cmp Z0w.f rLt:=fun a b=>by
 refine⟨_,by unfold Z0w.f;rw[Z7m,sb,Z7m,sb,or2,sb],?_⟩;simp only[rLt];by_cases h1:a.f0<b.f0
 ·simp[h1]
 ·by_cases h2:b.f0<a.f0
  ·have h3:¬ a.f0=b.f0:=by omega
   simp[h1,h2,h3]
  ·have h3:a.f0=b.f0:=by omega
   by_cases h4:a.f1<b.f1
   ·simp[h1,h2,h3,h4]
   ·by_cases h5:b.f1<a.f1<;>simp[h1,h2,h3,h4,h5]
theorem t_right_eq (r:Z4):Z45.f r=some (decide (Z3s r)):=by
 unfold Z45.f;by_cases h1:0≤r.f0
 ·by_cases h2:r.f0≤r.f1<;>simp[h1,h2,Z3s]
 ·simp[h1,Z3s]
theorem bad_eq (r:Z4):Z3h.f r=some (!decide (Z3s r)):=by
 unfold Z3h.f;rw[t_right_eq,sb]
theorem clone_r (l:List Z4) (h:l.length<1000000000):Z1k.f l=some l:=by
 unfold Z1k.f;rw[chkB (by simp;omega)]
theorem del_inst:Z0n.f=deleteF.f Z3h.f ⟨0,0⟩:=by kernel_rfl
structure OfI (pre out:List Z4):Prop where
 apart:Z96 out
 has:∀ t,HasL out t↔HasL pre t
 seen:∀ o∈out,∃ p∈pre,p.f0=o.f0
 len:out.length≤pre.length
theorem tof_l0 (l:List Z4) (hl:l.length<1000000000) (hR:∀ r∈l,Z3s r) (hs:l.Pairwise (fun a b=>rLt b a=false)):∀ (suf pre out:List Z4) (i:Int),l=pre++suf→i=(pre.length:Int)→OfI pre out →
  ∃ out',Z2y.l0 l out i=some out'∧OfI l out':=by
 intro suf
 induction suf with
 | nil =>
  intro pre out i h1 hi hI;rw[List.append_nil] at h1;subst h1;rw[Z2y.l0,if_neg (by simp[hi])];exact⟨out,rfl,hI⟩
 | cons b suf ih =>
  intro pre out i h1 hi hI;have hb:=hR b (by rw[h1];simp);have hlen:l.length=pre.length+(suf.length+1):=by rw[h1];simp
  have holen:out.length≤pre.length:=hI.len;have hle:∀ p∈pre,p.f0≤b.f0:=fun p hp=>by
   rw[h1] at hs;have:=(List.pairwise_append.1 hs).2.2 p hp b (by simp);simp[rLt] at this;omega
  have e1:l=(pre++[b])++suf:=by simp[h1]
  have e2:i+1=((pre++[b]).length:Int):=by simp[hi]
  rw[Z2y.l0,if_pos (by rw[h1];simp[hi];omega),Z1s h1 hi,sb,Z0b (n:=i+1) (by omega) (by omega)];have hroom:(out.length+[b].length)*16≤140737488355328:=by simp;omega
  have happ:∀ (hlt:∀ o∈out,o.f1+1<b.f0),OfI (pre++[b]) (out++[b]):=fun hlt =>
   ⟨Zbq hI.apart hb hlt,fun t=>by rw[Z63,Z63,hI.has],fun o ho=>by
    rcases List.mem_append.1 ho with ho | ho
    ·obtain⟨p,hp,e⟩:=hI.seen o ho;exact⟨p,by simp[hp],e⟩
    ·simp at ho;subst ho;exact⟨o,by simp,rfl⟩,by simp;omega⟩
  rcases List.eq_nil_or_concat out with rfl | ⟨o',o,rfl⟩
  ·rw[if_neg (by simp),sb,if_neg (by simp),chkB hroom,sb]
   exact ih (pre++[b]) _ (i+1) e1 e2 (happ (by simp))
  simp only[List.concat_eq_append] at *;have ho':o'.length<1000000000000:=by simp at holen;omega
  obtain⟨ha',hox,hog⟩:=apart_concat hI.apart;rw[if_pos (by simp),snoc_at _ _ ho',sb,sb,Z0b (n:=o.f1+1) (by omega) (by omega)];by_cases hc:b.f0≤o.f1+1
  ·rw[if_pos (by simpa using hc),sb,snoc_set _ _ _ ho',sb]
   obtain⟨p,hp,hpo⟩:=hI.seen o (by simp);have hob:o.f0≤b.f0:=hpo ▸ hle p hp;refine ih (pre++[b]) _ (i+1) e1 e2 ⟨Zbq ha' ?_ ?_,fun t => ?_,fun q hq => ?_,by simp at holen ⊢;omega⟩
   ·show 0≤o.f0∧o.f0≤_∧_≤_
    split<;>(dsimp only;omega)
   ·intro r hr;exact hog r hr
   ·have:=hI.has t
    rw[Z63,Z6n] at this ⊢;rw[Z63,Z6n,← this];have n1:¬ HasL [] t:=hasL_nil t;by_cases q:HasL o' t
    ·simp[q]
    ·simp only[q,n1,or_false,false_or,Z3s   ] at *
     split<;>omega
   ·rcases List.mem_append.1 hq with hq | hq
    ·obtain⟨p,hp,e⟩:=hI.seen q (by simp[hq]);exact⟨p,by simp[hp],e⟩
    ·simp at hq;subst hq;exact⟨p,by simp[hp],hpo⟩
  ·rw[if_neg (by simpa using hc),chkB hroom,sb]
   exact ih (pre++[b]) _ (i+1) e1 e2 (happ (fun r hr=>by
    rcases List.mem_append.1 hr with hr | hr
    ·have:=hog r hr;omega
    ·simp at hr;subst hr;omega))
theorem of_spec (l:List Z4) (hl:l.length<1000000000):∃ r,Z2y.f l=some ⟨r⟩∧Z96 r∧(∀ t,HasL r t↔HasL l t)∧r.length≤l.length:=by
 unfold Z2y.f;rw[clone_r l hl,sb,del_inst,Zbm bad_eq _ _ (by omega),sb,tsort_inst];have hf:(l.filter fun x => !(!decide (Z3s x))).length≤l.length:=List.length_filter_le ..;obtain⟨s,e,hp,hs⟩:=sortF rCmp rLt_swo (l.filter fun x => !(!decide (Z3s x))) (by omega);rw[e,sb];have hsl:=hp.length_eq;obtain⟨out,e2,hI⟩:=tof_l0 s (by omega) (fun r hr=>by
  have:=(List.mem_filter.1 (hp.mem_iff.1 hr)).2;simpa using this) hs s [] [] 0 rfl rfl ⟨Z96.nil,fun t=>Iff.rfl,by simp,by simp⟩
 rw[e2,sb];exact⟨out,rfl,hI.apart,fun t=>by rw[hI.has,hasL_perm hp,hasL_filter _ _ _ (fun r hr=>by simp[hr])],by have:=hI.len;omega⟩
theorem has_eq (l:List Z4) (hl:l.length<1000000000) (h:Z96 l) (t:Int):∃ b,Z35.f ⟨l⟩ t=some b∧(b=true↔HasL l t):=by
 unfold Z35.f;have hi:Z04.f=binF.f Z22.f:=by kernel_rfl
 have hc:∀ x,Z22.f x t=some (if x.f0<t then -1 else if x.f0>t then 1 else 0):=fun x=>by
  unfold Z22.f;rw[Z7m,sb]
 have hlt:∀ i j (x y:Z4),i<j→l[i]? = some x→l[j]? = some y→x.f1+1<y.f0:=fun i j x y hij hx hy=>by
  obtain⟨hi',ex⟩:=List.getElem?_eq_some_iff.1 hx;obtain⟨hj',ey⟩:=List.getElem?_eq_some_iff.1 hy;have:=List.pairwise_iff_getElem.1 h.gapT i j hi' hj' hij;rw[ex,ey] at this;exact this
 have hR:∀ i (x:Z4),l[i]? = some x→Z3s x:=fun i x hx=>h.right x (List.mem_of_getElem? hx)
 obtain⟨k,fb,hk,hfb,e⟩:=binF_eq hc l hl (fun i j x y hij hx hy hneg=>by
  have hyt:y.f0<t:=by
   by_cases q:y.f0<t
   ·exact q
   ·rw[if_neg q] at hneg;split at hneg<;>omega
  have:x.f0<t:=by
   by_cases q:i=j
   ·subst q;rw[hx] at hy;simp at hy;subst hy;exact hyt
   ·have:=hlt i j x y (by omega) hx hy
    have:=hR i x hx;omega
  rw[if_pos this];omega)
 have hlo:∀ m x,m<k→l[m]? = some x→x.f0<t:=fun m x hm hx=>by
  have:=hk.lo m x hm hx;by_cases q:x.f0<t
  ·exact q
  ·rw[if_neg q] at this;split at this<;>omega
 have hhi:∀ m x,k≤m→l[m]? = some x→t≤x.f0:=fun m x hm hx=>by
  have:=hk.hi m x hm hx;by_cases q:x.f0<t
  ·rw[if_pos q] at this;omega
  ·omega
 rw[hi,e,sb];have main:∀ (m:Nat) (x:Z4),l[m]? = some x→Z3s x∧x.f0≤t∧t≤x.f1→(∃ y,l[k]? = some y∧y.f0=t)∨(0<k∧∃ y,l[k-1]? = some y∧t≤y.f1):=fun m x hx q=>by
  have hml:=(List.getElem?_eq_some_iff.1 hx).1;by_cases hm:m<k
  ·right
   refine⟨by omega,?_⟩;by_cases hm1:m=k-1
   ·exact⟨x,hm1 ▸ hx,q.2.2⟩
   ·have hk1:k-1<l.length:=by have:=hk.le;omega
    have a:=hlo (k-1) _ (by omega) (List.getElem?_eq_getElem hk1);have b:=hlt m (k-1) x _ (by omega) hx (List.getElem?_eq_getElem hk1);omega
  ·left
   have hkl:k<l.length:=by omega
   refine⟨l[k],List.getElem?_eq_getElem hkl,?_⟩;have a:=hhi k _ (by omega) (List.getElem?_eq_getElem hkl);by_cases hmk:m=k
   ·subst hmk;rw[List.getElem?_eq_getElem hkl] at hx;simp at hx;rw[hx] at a ⊢;omega
   ·have b:=hlt k m _ x (by omega) (List.getElem?_eq_getElem hkl) hx
    have c:=hR k _ (List.getElem?_eq_getElem hkl);omega
 have main':HasL l t→(∃ y,l[k]? = some y∧y.f0=t)∨(0<k∧∃ y,l[k-1]? = some y∧t≤y.f1):=fun⟨r,hr,q⟩=>by
  obtain⟨m,hm⟩:=List.getElem?_of_mem hr;exact main m r hm q
 have hz:∀ y:Z4,(if y.f0<t then(-1:Int) else if y.f0>t then 1 else 0)=0↔y.f0=t:=fun y=>by
  by_cases q:y.f0<t
  ·rw[if_pos q];omega
  ·by_cases q2:y.f0>t
   ·rw[if_neg q,if_pos q2];omega
   ·rw[if_neg q,if_neg q2];omega
 simp only[hz] at hfb;dsimp only;by_cases hf:∃ y,l[k]? = some y∧y.f0=t
 ·rw[if_pos (hfb.2 hf),sb]
  obtain⟨y,hy,hyt⟩:=hf;refine⟨true,rfl,by simp;exact⟨y,List.mem_of_getElem? hy,hR k y hy,by omega,by have:=(hR k y hy).2.1;omega⟩⟩
 ·rw[if_neg (fun q=>hf (hfb.1 q))]
  by_cases hk0:0<k
  ·have hk1:k-1<l.length:=by have:=hk.le;omega
   have hy:=List.getElem?_eq_getElem hk1;rw[if_pos (by simpa using hk0),Z0b (by have:=hk.le;omega) (by have:=hk.le;omega),at_nat (k:=k-1) (by omega) hy,sb,sb];refine⟨_,rfl,?_⟩;simp only[decide_eq_true_eq];constructor
   ·intro q
    exact⟨_,List.mem_of_getElem? hy,hR _ _ hy,by have:=hlo (k-1) _ (by omega) hy;omega,q⟩
   ·intro q
    rcases main' q with q | ⟨_,y,hy',q⟩
    ·exact absurd q hf
    ·rw[hy] at hy';simp at hy';rw[hy'];exact q
  ·rw[if_neg (by simpa using hk0),sb]
   refine ⟨false, rfl, by simp; intro q; rcases main' q with q | q
                          ·exact hf q
                          ·omega⟩
theorem to_l0 (l:List Z4) (hl:l.length<1000000000):∀ (suf pre:List Z4) (i:Int),l=pre++suf→i=(pre.length:Int)→Z3v.l0 l pre i=some l:=by
 intro suf
 induction suf with
 | nil=>intro pre i h1 hi;rw[Z3v.l0,if_neg (by rw[h1];simp[hi]),h1,List.append_nil]
 | cons b suf ih =>
  intro pre i h1 hi;have hlen:l.length=pre.length+(suf.length+1):=by rw[h1];simp
  rw[Z3v.l0,if_pos (by simp;omega),Z1s h1 hi,sb,chkB (by simp;omega),Z0b (by omega) (by omega)];exact ih (pre++[b]) (i+1) (by simp[h1]) (by simp;omega)
theorem t_to_eq (l:List Z4) (hl:l.length<1000000000):Z3v.f l=some l:=by
 unfold Z3v.f;rw[to_l0 l hl l [] 0 rfl rfl,sb]
open Classical in
noncomputable def hasB (l:List Z4) (t:Int):Bool:=decide (HasL l t)
theorem Z6y (l:List Z4) (t:Int):hasB l t=true↔HasL l t:=by simp[hasB]
theorem hasB_eq (l:List Z4) (hl:l.length<1000000000) (h:Z96 l) (t:Int):Z35.f ⟨l⟩ t=some (hasB l t):=by
 obtain⟨b,e,hb⟩:=has_eq l hl h t;rw[e,show b=hasB l t from Bool.eq_iff_iff.2 (hb.trans (Z6y l t).symm)]
theorem hasB_nil (t:Int):hasB [] t=false:=by
 cases e:hasB [] t with
 | false=>rfl
 | true=>exact absurd ((Z6y _ _).1 e) (hasL_nil t)
noncomputable abbrev kept (x:List Z4) (l:List Zi):List Zi:=l.filter (fun s => !hasB x s.f0)
theorem keep_inst (l:List Zi) (c:List Z4):Z05.f l c=deleteF.f (fun x=>Z1p.f x c) (⟨0,(⟨0,0,0,0,0,0,[],[]⟩:Z20)⟩:Zi) l:=by kernel_rfl
theorem t_keep_eq (x:List Z4) (hx:x.length<1000000000) (h:Z96 x) (l:List Zi) (hl:l.length<1000000000):Z1w.f ⟨x⟩ l=some (kept x l):=by
 unfold Z1w.f Z1t.f;rw[chkB (by simp;omega),sb,keep_inst,Zbm (p:=fun s=>hasB x s.f0) (fun s=>by unfold Z1p.f;rw[hasB_eq x hx h,sb]) _ _ (by omega),sb]
theorem refRight (r:Z4):Z3i.f r=some (decide (Z3s r)):=by
 unfold Z3i.f;by_cases h1:0≤r.f0
 ·by_cases h2:r.f0≤r.f1<;>simp[h1,h2,Z3s]
 ·simp[h1,Z3s]
theorem hasB_cons (x:Z4) (l:List Z4) (t:Int):hasB (x::l) t=(decide (Z3s x∧x.f0≤t∧t≤x.f1)||hasB l t):=by
 rw[Bool.eq_iff_iff,Z6y,Z6n,Bool.or_eq_true,Z6y];simp
theorem refHas_l0 (l:List Z4) (t:Int) (hl:l.length<1000000000):∀ (suf pre:List Z4) (i:Int),l=pre++suf→i=(pre.length:Int) →
  Z38.l0 l t i=some (if hasB suf t=true then .inl true else .inr ()):=by
 intro suf
 induction suf with
 | nil=>intro pre i h1 hi;rw[Z38.l0,if_neg (by rw[h1];simp[hi]),hasB_nil];rfl
 | cons b suf ih =>
  intro pre i h1 hi;have hlen:l.length=pre.length+(suf.length+1):=by rw[h1];simp
  have hb:(Z3i.f b>>=fun t2967=>if t2967=true then(if(decide (b.f0≤t))=true then(some (decide (t≤b.f1))) else(some false)) else(some false))=some (decide (Z3s b∧b.f0≤t∧t≤b.f1)):=by
   rw[refRight,sb];by_cases h1:Z3s b
   ·by_cases h2:b.f0≤t<;>simp[h1,h2]
   ·simp[h1]
  rw[Z38.l0,if_pos (by simp;omega),Z1s h1 hi,sb,hb,sb,Z0b (n:=i+1) (by omega) (by omega),hasB_cons];by_cases hc:Z3s b∧b.f0≤t∧t≤b.f1
  ·rw[if_pos (decide_eq_true hc),if_pos (by rw[decide_eq_true hc];rfl)]
  ·rw[if_neg (by rw[decide_eq_true_eq];exact hc),ih (pre++[b]) (i+1) (by simp[h1]) (by simp;omega),decide_eq_false hc,Bool.false_or]
theorem refHas (l:List Z4) (t:Int) (hl:l.length<1000000000):Z38.f l t=some (hasB l t):=by
 unfold Z38.f;rw[refHas_l0 l t hl l [] 0 rfl rfl,sb];cases hasB l t<;>rfl
def tLtS (a b:Zi):Bool:=decide (a.f0<b.f0)
theorem tLtS_swo:SWO tLtS:=⟨fun a b h=>by simp[tLtS] at *;omega,fun a b c h1 h2=>by simp[tLtS] at *;omega⟩
theorem tCmpS:Cmp Z1u.f tLtS:=fun a b=>by
 unfold Z1u.f;rw[compare64,sb];by_cases c1:a.f0<b.f0
 ·exact⟨-1,by rw[if_pos c1],by simp[tLtS,c1]⟩
 ·rw[if_neg c1]
  by_cases c2:a.f0>b.f0
  ·exact⟨1,by rw[if_pos c2],by simp[tLtS,c1]⟩
  ·exact⟨0,by rw[if_neg c2],by simp[tLtS,c1]⟩
theorem jst_inst:Z0o.f=GS.SortStable.f Z1u.f:=by kernel_rfl
theorem stable_id {l:List Zi} (h:l.Pairwise fun a b=>a.f0<b.f0) (hl:l.length≤1000000):Z0o.f l=some l:=by
 rw[jst_inst,GS.sorts tCmpS tLtS_swo l (by omega),S_of_sorted tLtS_swo l (h.imp (fun {a b} h=>by simp[tLtS];omega))]
def rowLt (a b:Z2):Bool:=bl a.f0 b.f0
theorem rowLt_swo:SWO rowLt:=⟨fun a b h=>bl_asymm h,fun a b c h1 h2=>bl_ntrans h1 h2⟩
theorem rowCmp:Cmp Z0m.f rowLt:=fun a b=>by
 refine⟨_,by unfold Z0m.f;rw[cmp_str,sb],?_⟩;simp only[rowLt];cases h1:bl a.f0 b.f0<;>cases h2:bl b.f0 a.f0<;>simp
theorem rsort_inst:Z0i.f=GS.SortF.f Z0m.f:=by kernel_rfl
def Z4u (kf:ByteArray→Zi→Bool) (key:ByteArray) (R:List Z2):List Zi:=R.flatMap fun r=>if r.f0=key then r.f1.filter (kf key) else []
structure JRep (kf:ByteArray→Zi→Bool) (R:List Z2) (m:List (ByteArray×List Zi)):Prop where
 nodup:(m.map (·.1)).Nodup
 get:∀ key,key∈R.map (fun r:Z2=>r.f0)→mget m key=some (Z4u kf key R)
 non:∀ key,key ∉ R.map (fun r:Z2=>r.f0)→mget m key=none
theorem Zbi {kf:ByteArray→Zi→Bool} {key:ByteArray}:∀ {R:List Z2},key ∉ R.map (fun r:Z2=>r.f0)→Z4u kf key R=[]
 | [],_=>rfl
 | r::R,h=>by
  simp only[List.map_cons,List.mem_cons,not_or] at h;have:Z4u kf key (r::R)=(if r.f0=key then r.f1.filter (kf key) else [])++Z4u kf key R:=by simp[Z4u]
  rw[this,if_neg (fun e=>h.1 e.symm),Zbi h.2];rfl
theorem Zbh {kf:ByteArray→Zi→Bool} {key:ByteArray} {R:List Z2} {r:Z2}:Z4u kf key (R++[r])=Z4u kf key R++(if r.f0=key then r.f1.filter (kf key) else []):=by simp[Z4u]
theorem Zaq {kf:ByteArray→Zi→Bool} {key:ByteArray}:∀ {R:List Z2},(Z4u kf key R).length≤(R.map fun r=>r.f1.length).sum
 | []=>by simp[Z4u]
 | r::R=>by
  have:Z4u kf key (r::R)=(if r.f0=key then r.f1.filter (kf key) else [])++Z4u kf key R:=by simp[Z4u]
  rw[this,List.length_append,List.map_cons,List.sum_cons];have h1:=@Zaq kf key R;have h2:(if r.f0=key then r.f1.filter (kf key) else []).length≤r.f1.length:=by
   split
   ·exact List.length_filter_le _ _
   ·simp
  omega
theorem JRep.step {kf:ByteArray→Zi→Bool} {R:List Z2} {m:List (ByteArray×List Zi)} (h:JRep kf R m) (r:Z2) :
  (mget m r.f0).getD []=Z4u kf r.f0 R∧JRep kf (R++[r]) (mput m r.f0 (Z4u kf r.f0 R++r.f1.filter (kf r.f0))):=by
 have hin:∀ key,r.f0≠key→(key∈(R++[r]).map (fun r:Z2=>r.f0)↔key∈R.map (fun r:Z2=>r.f0)):=fun key c=>by
  rw[List.map_append,List.mem_append];simp only[List.map_cons,List.map_nil,List.mem_singleton];exact⟨fun h=>h.resolve_right (fun e=>c e.symm),.inl⟩
 refine⟨?_,Z8u _ _ _ h.nodup,fun key hk => ?_,fun key hk => ?_⟩
 ·by_cases c:r.f0∈R.map (fun r:Z2         => r.f0)
  ·rw[h.get _ c];rfl
  ·rw[h.non _ c,Zbi c];rfl
 ·rw[mgetp]
  by_cases c:r.f0=key
  ·subst c
   rw[if_pos rfl,Zbh,if_pos rfl]
  ·rw[if_neg c,h.get _ ((hin key c).1 hk),Zbh,if_neg c,List.append_nil]
 ·rw[mgetp]
  by_cases c:r.f0=key
  ·exact absurd (by rw[← c];simp) hk
  ·rw[if_neg c]
   exact h.non _ (fun e=>hk ((hin key c).2 e))
theorem j_l1 (a0:List (ByteArray×Z0z)) (kf:ByteArray→Zi→Bool) {R:List Z2} {b:Z5} (hb:b.f1.length≤1000000) (hk:∀ r∈b.f1,Z1w.f (⟨((mget a0 r.f0).getD ⟨[]⟩).f0⟩:Z0z) r.f1=some (r.f1.filter (kf r.f0))) (hs:((R++b.f1).map fun r=>r.f1.length).sum≤100000) :
  ∀ (suf pre:List Z2) (m:List (ByteArray×List Zi)) (i:Int),b.f1=pre++suf→i=(pre.length:Int)→JRep kf (R++pre) m→∃ y,Zg.l1 a0 b m i=some y∧JRep kf (R++b.f1) y:=by
 intro suf
 induction suf with
 | nil =>
  intro pre m i h1 hi hm;rw[List.append_nil] at h1;rw[Zg.l1,if_neg (by rw[h1];simp[hi])];exact⟨m,rfl,by rw[h1];exact hm⟩
 | cons r suf ih =>
  intro pre m i h1 hi hm;have hlen:b.f1.length=pre.length+(suf.length+1):=by rw[h1];simp
  obtain⟨g1,g2⟩:=hm.step r;have hsum:=hs;rw[h1,← List.append_assoc,List.map_append,List.sum_append,List.map_cons,List.sum_cons] at hsum;have h2:=@Zaq kf r.f0 (R++pre);have h3:(r.f1.filter (kf r.f0)).length≤r.f1.length:=List.length_filter_le _ _;rw[Zg.l1,if_pos (by simp;omega),Z1s h1 hi,sb,hk r (by rw[h1];simp),sb,g1,chkB (by omega),Z0b (by omega) (by omega)];exact ih (pre++[r]) _ (i+1) (by simp[h1]) (by simp;omega) (by rw[← List.append_assoc];exact g2)
theorem j_l0 (a0:List (ByteArray×Z0z)) (kf:ByteArray→Zi→Bool) {B:List Z5} (hB:B.length≤1000000) (hb:∀ b∈B,b.f1.length≤1000000) (hk:∀ b∈B,∀ r∈b.f1,Z1w.f (⟨((mget a0 r.f0).getD ⟨[]⟩).f0⟩:Z0z) r.f1=some (r.f1.filter (kf r.f0))) (hs:((B.flatMap (·.f1)).map fun r=>r.f1.length).sum≤100000) :
  ∀ (suf pre:List Z5) (m:List (ByteArray×List Zi)) (i:Int),B=pre++suf→i=(pre.length:Int)→JRep kf (pre.flatMap (·.f1)) m→∃ y,Zg.l0 a0 B m i=some y∧JRep kf (B.flatMap (·.f1)) y:=by
 intro suf
 induction suf with
 | nil =>
  intro pre m i h1 hi hm;rw[List.append_nil] at h1;rw[Zg.l0,if_neg (by rw[h1];simp[hi])];exact⟨m,rfl,by rw[h1];exact hm⟩
 | cons b suf ih =>
  intro pre m i h1 hi hm;have hlen:B.length=pre.length+(suf.length+1):=by rw[h1];simp
  have e0:B.flatMap (·.f1)=(pre.flatMap (·.f1)++b.f1)++suf.flatMap (·.f1):=by rw[h1];simp
  have hs2:((pre.flatMap (·.f1)++b.f1).map fun r=>r.f1.length).sum≤100000:=by
   rw[e0,List.map_append,List.sum_append] at hs;omega
  obtain⟨y,e1,e2⟩:=j_l1 a0 kf (R:=pre.flatMap (·.f1)) (b:=b) (hb b (by rw[h1];simp)) (hk b (by rw[h1];simp)) hs2 b.f1 [] m 0 rfl rfl (by rw[List.append_nil];exact hm);rw[Zg.l0,if_pos (by simp;omega),Z1s h1 hi,sb,e1,sb,Z0b (by omega) (by omega)];exact ih (pre++[b]) y (i+1) (by simp[h1]) (by simp;omega) (by rw[List.flatMap_append];simpa using e2)
theorem j_en:∀ (p:List (ByteArray×List Zi)) (acc:List Z2),(∀ q∈p,q.2.Pairwise (fun a b=>a.f0<b.f0)∧q.2.length≤1000000)→acc.length+p.length≤1000000→Zg.en p acc=some (acc++p.flatMap fun q=>Z1z q.1 q.2)
 | [],acc,_,_=>by rw[Zg.en];simp
 | (k,s)::p,acc,h,hl=>by
  obtain⟨h1,h2⟩:=h (k,s) (by simp);have ih:=fun acc hl=>j_en p acc (fun q hq=>h q (by simp[hq])) hl;simp only[List.length_cons] at hl;rw[Zg.en];by_cases c:s=[]
  ·subst c
   rw[if_neg (by simp),ih acc (by omega)];rfl
  ·have hpos:=List.length_pos_iff.2 c
   rw[if_pos (by simpa using hpos),stable_id h1 h2,sb,chkB (by omega),ih _ (by simp;omega)];have e:Z1z k s=[⟨k,s⟩]:=if_neg (by simpa using c);rw[List.flatMap_cons,e,List.append_assoc]
theorem join_spec (a0:List (ByteArray×Z0z)) (kf:ByteArray→Zi→Bool) {B:List Z5} {E:List Z2} (hB:B.length≤1000000) (hb:∀ b∈B,b.f1.length≤1000000) (hk:∀ b∈B,∀ r∈b.f1,Z1w.f (⟨((mget a0 r.f0).getD ⟨[]⟩).f0⟩:Z0z) r.f1=some (r.f1.filter (kf r.f0))) (hs:((B.flatMap (·.f1)).map fun r=>r.f1.length).sum≤100000) (hn:(B.flatMap (·.f1)).length≤1000000) (hT:∀ key,(Z4u kf key (B.flatMap (·.f1))).Pairwise fun a b=>a.f0<b.f0) (hE:E.Pairwise fun a b=>bl a.f0 b.f0=true) (hm:∀ q:Z2,q∈E↔q.f0∈(B.flatMap (·.f1)).map (fun r:Z2=>r.f0)∧q.f1≠[]∧q.f1=Z4u kf q.f0 (B.flatMap (·.f1))):Zg.f a0 B=some E:=by
 generalize hR:B.flatMap (·.f1)=R at *;obtain⟨y,e1,hy⟩:=j_l0 a0 kf hB hb hk (by rw[hR];exact hs) B [] [] 0 rfl rfl ⟨by simp,fun key h=>by simp at h,fun key h=>rfl⟩;rw[hR] at hy;have hmem:∀ k s,(k,s)∈y↔k∈R.map (fun r:Z2=>r.f0)∧s=Z4u kf k R:=fun k s=>by
  rw[← Z6v y hy.nodup];by_cases c:k∈R.map (fun r:Z2=>r.f0)
  ·rw[hy.get _ c]
   exact⟨fun h=>⟨c,(Option.some.inj h).symm⟩,fun h=>by rw[h.2]⟩
  ·rw[hy.non _ c]
   exact⟨fun h=>(by cases h),fun h=>absurd h.1 c⟩
 have hyl:y.length≤1000000:=by
  have h1:=Z9q (y.map (·.1)) (R.map (fun r:Z2=>r.f0)) hy.nodup (fun k hk=>by
   obtain⟨⟨k',s⟩,hq,rfl⟩:=List.mem_map.1 hk;exact((hmem k' s).1 hq).1)
  simp only[List.length_map] at h1;omega
 unfold Zg.f;rw[e1,sb];have hr:rchk (fun(p:List (ByteArray×List Zi)) (_:Unit)=>(Zg.en p [])>>=fun o=>Z0i.f o) y ()=some E:=rchk_eq fun p hp=>by
  have hpy:∀ q,q∈p↔q∈y:=fun q=>hp.mem_iff
  have hpl:=hp.length_eq;have hen:=j_en p [] (fun q hq=>by
   obtain⟨k,s⟩:=q;obtain⟨_,rfl⟩:=(hmem k s).1 ((hpy _).1 hq);have:=@Zaq kf k R;exact⟨hT k,by show(Z4u kf k R).length≤_;omega⟩) (by simp;omega)
  show(Zg.en p []>>=fun o=>Z0i.f o)=some E;rw[hen,sb,List.nil_append];have hol:(p.flatMap fun q=>Z1z q.1 q.2).length≤p.length:=by
   clear hen hpl hpy hp
   induction p with
   | nil=>simp
   | cons q p ih =>
    rw[List.flatMap_cons,List.length_append,List.length_cons];have:(Z1z q.1 q.2).length≤1:=by unfold Z1z;split<;>simp
    omega
  obtain⟨r,r1,r2,r3⟩:=GS.sortF rowCmp rowLt_swo (p.flatMap fun q=>Z1z q.1 q.2) (by omega);rw[rsort_inst,r1];have hom:∀ q:Z2,q∈r↔q∈E:=fun q=>by
   rw[r2.mem_iff,hm,List.mem_flatMap];constructor
   ·rintro⟨⟨k,s⟩,hq,h⟩
    obtain⟨g1,g2⟩:=(hmem k s).1 ((hpy _).1 hq);unfold Z1z at h;by_cases c:s.isEmpty=true
    ·rw[if_pos c] at h;simp at h
    ·rw[if_neg c] at h
     obtain rfl:=List.mem_singleton.1 h;exact⟨g1,by simpa using c,g2⟩
   ·rintro⟨g1,g2,g3⟩
    refine⟨(q.f0,q.f1),(hpy _).2 ((hmem _ _).2 ⟨g1,g3⟩),?_⟩;unfold Z1z;rw[if_neg (by simpa using g2)];exact List.mem_singleton.2 rfl
  have hnd:(r.map (fun r:Z2=>r.f0)).Nodup:=by
   have h1:(r.map (fun r:Z2=>r.f0)).Perm ((p.flatMap fun q=>Z1z q.1 q.2).map (fun r:Z2=>r.f0)):=r2.map _;refine h1.nodup_iff.2 ?_;have hpn:(p.map (·.1)).Nodup:=(hp.map _).nodup_iff.2 hy.nodup;clear h1 r3 r2 r1 hom hol hen hpl hpy hp
   induction p with
   | nil=>simp
   | cons q p ih =>
    rw[List.map_cons,List.nodup_cons] at hpn;rw[List.flatMap_cons,List.map_append];have ih:=ih hpn.2;unfold Z1z;by_cases c:q.2.isEmpty=true
    ·rw[if_pos c];exact ih
    ·rw[if_neg c]
     show(q.1::_).Nodup;refine List.nodup_cons.2 ⟨fun hq=>hpn.1 ?_,ih⟩;obtain⟨z,hz,hz2⟩:=List.mem_map.1 hq;obtain⟨q',hq',hz3⟩:=List.mem_flatMap.1 hz;by_cases c':q'.2.isEmpty=true
     ·rw[if_pos c'] at hz3;simp at hz3
     ·rw[if_neg c'] at hz3
      obtain rfl:=List.mem_singleton.1 hz3;exact List.mem_map.2 ⟨q',hq',hz2⟩
  have hrs:r.Pairwise fun a b=>bl a.f0 b.f0=true:=by
   rw[List.Nodup,List.pairwise_map] at hnd;refine(r3.and hnd).imp (fun {a b} h => ?_);obtain⟨h3,h4⟩:=h;simp only[rowLt] at h3;cases h5:bl a.f0 b.f0 with
   | true=>rfl
   | false=>exact absurd (bl_tri' h5 h3) h4
  rw[rise_uniq (lt:=fun a b:Z2=>bl a.f0 b.f0=true) (fun a h=>by rw[Z91] at h;cases h) (fun a b h h2=>by have h3:bl b.f0 a.f0=false:=bl_asymm h;rw[h3] at h2;cases h2) hrs hE hom]
 rw[hr,sb]
structure Z9n (l:List Z2):Prop where
 len:l.length≤64
 ne:∀ r∈l,r.f1≠[]
 up:∀ r∈l,r.f1.Pairwise fun a b=>a.f0<b.f0
 tm:∀ r∈l,∀ s∈r.f1,0≤s.f0∧s.f0<4611686018427387904
 keys:l.Pairwise fun a b=>bl a.f0 b.f0=true
 sum:(l.map fun r=>r.f1.length).sum≤1200
theorem sum_mem {α:Type} (f:α→Nat):∀ {l:List α} {x:α},x∈l→f x≤(l.map f).sum
 | y::l,x,h=>by
  rw[List.map_cons,List.sum_cons];rcases List.mem_cons.1 h with rfl | h
  ·omega
  ·have:=sum_mem f h;omega
theorem Z9n.ne_keys {l:List Z2} (h:Z9n l):l.Pairwise fun a b=>a.f0≠b.f0:=h.keys.imp (fun {a b} h e=>by rw[e,Z91] at h;cases h)
theorem Z9n.mkIn {l:List Z2} (h:Z9n l):MkIn l:=⟨by have:=h.len;omega,fun r hr=>⟨by have:=sum_mem (fun r:Z2=>r.f1.length) hr;have:=h.sum;omega,h.tm r hr⟩,h.ne_keys⟩
theorem uniq_key:∀ {l:List Z2},(l.Pairwise fun a b=>a.f0≠b.f0)→∀ {r q:Z2},r∈l→q∈l→r.f0=q.f0→r=q
 | [],_,r,q,hr,_,_=>by simp at hr
 | x::l,h,r,q,hr,hq,e=>by
  obtain⟨h1,h2⟩:=List.pairwise_cons.1 h;by_cases c1:r=x
  ·by_cases c2:q=x
   ·rw[c1,c2]
   ·have hq:=(List.mem_cons.1 hq).resolve_left c2
    exact absurd (by rw[← e,c1]) (h1 q hq)
  ·have hr:=(List.mem_cons.1 hr).resolve_left c1
   by_cases c2:q=x
   ·exact absurd (by rw[e,c2]) (h1 r hr)
   ·exact uniq_key h2 hr ((List.mem_cons.1 hq).resolve_left c2) e
theorem atLow_keys {k lo:Int} {l:List Z2} (h:l.Pairwise fun a b=>a.f0≠b.f0):(Z3a k lo l).Pairwise fun a b=>a.f0≠b.f0:=by
 unfold Z3a;rw[List.pairwise_flatMap];have hm:∀ (r:Z2) (q:Z2),q∈Z1z r.f0 (Z2l k lo r.f1)→q.f0=r.f0:=fun r q hq=>by
  unfold Z1z at hq;split at hq
  ·simp at hq
  ·rw[List.mem_singleton.1 hq]
 refine⟨fun r hr => ?_,h.imp (fun {a b} h x hx y hy=>by rw[hm a x hx,hm b y hy];exact h)⟩;unfold Z1z;split<;>simp
theorem Z9r {k:Int} {l:List Z2} {B:List Z5} (hB:Made k l B) {q:Z2}:q∈B.flatMap (·.f1)↔∃ lo,∃ r∈l,q.f0=r.f0∧q.f1=Z2l k lo r.f1∧q.f1≠[]:=by
 rw[List.mem_flatMap];constructor
 ·rintro⟨b,hb,hq⟩
  obtain⟨lo,_,rfl⟩:=(hB.mem b).1 hb;exact⟨lo,Z3r.1 hq⟩
 ·rintro⟨lo,h⟩
  have h2:q∈Z3a k lo l:=Z3r.2 h;exact⟨Z75 k lo l,(hB.mem _).2 ⟨lo,fun e=>by rw[e] at h2;simp at h2,rfl⟩,h2⟩
theorem made_mem {k:Int} {l:List Z2} {B:List Z5} (hw:Z9n l) (hB:Made k l B) (kf:ByteArray→Zi→Bool) {r:Z2} (hr:r∈l) (s:Zi):s∈Z4u kf r.f0 (B.flatMap (·.f1))↔s∈r.f1.filter (kf r.f0):=by
 unfold Z4u;rw[List.mem_flatMap,List.mem_filter];constructor
 ·rintro⟨q,hq,hs⟩
  obtain⟨lo,r',hr',g1,g2,g3⟩:=(Z9r hB).1 hq;by_cases c:q.f0=r.f0
  ·rw[if_pos c,List.mem_filter] at hs
   obtain rfl:=uniq_key hw.ne_keys hr' hr (g1.symm.trans c);rw[g2] at hs;exact⟨(List.mem_filter.1 hs.1).1,hs.2⟩
  ·rw[if_neg c] at hs;simp at hs
 ·rintro⟨h1,h2⟩
  have hin:s∈Z2l k (lowT k s.f0) r.f1:=List.mem_filter.2 ⟨h1,by simp⟩;refine⟨⟨r.f0,Z2l k (lowT k s.f0) r.f1⟩,(Z9r hB).2 ⟨lowT k s.f0,r,hr,rfl,rfl,fun e=>by
   have e:Z2l k (lowT k s.f0) r.f1=[]:=e;rw[e] at hin;simp at hin⟩,?_⟩
  rw[if_pos rfl,List.mem_filter];exact⟨hin,h2⟩
theorem made_up {k:Int} {l:List Z2} {B:List Z5} (hw:Z9n l) (hB:Made k l B) (kf:ByteArray→Zi→Bool) (key:ByteArray):(Z4u kf key (B.flatMap (·.f1))).Pairwise fun a b=>a.f0<b.f0:=by
 have e:Z4u kf key (B.flatMap (·.f1))=B.flatMap fun b=>b.f1.flatMap fun r=>if r.f0=key then r.f1.filter (kf key) else []:=by
  unfold Z4u;rw[List.flatMap_assoc]
 rw[e,List.pairwise_flatMap];constructor
 ·intro b hb
  obtain⟨lo,_,rfl⟩:=(hB.mem b).1 hb;show((Z3a k lo l).flatMap _).Pairwise _;rw[List.pairwise_flatMap];constructor
  ·intro q hq
   obtain⟨r,hr,g1,g2,g3⟩:=Z3r.1 hq;split
   ·rw[g2];exact((hw.up r hr).filter _).filter _
   ·exact List.Pairwise.nil
  ·refine(atLow_keys hw.ne_keys).imp (fun {a b} h x hx y hy => ?_)
   split at hx
   ·rename_i c1
    split at hy
    ·rename_i c2;exact absurd (c1.trans c2.symm) h
    ·simp at hy
   ·simp at hx
 ·refine hB.up.imp_of_mem (fun {a b} ha hb h x hx y hy => ?_)
  obtain⟨la,_,rfl⟩:=(hB.mem a).1 ha;obtain⟨lb,_,rfl⟩:=(hB.mem b).1 hb;have h:la<lb:=h;have key2:∀ lo x,x∈((Z75 k lo l).f1.flatMap fun r=>if r.f0=key then r.f1.filter (kf key) else [])→lowT k x.f0=lo∧0≤x.f0:=fun lo x hx=>by
   obtain⟨q,hq,hx⟩:=List.mem_flatMap.1 hx;obtain⟨r,hr,g1,g2,g3⟩:=Z3r.1 hq;split at hx
   ·have h1:=(List.mem_filter.1 hx).1
    rw[g2] at h1;have h2:=List.mem_filter.1 h1;exact⟨by simpa using h2.2,(hw.tm r hr x h2.1).1⟩
   ·simp at hx
  obtain⟨p1,p2⟩:=key2 la x hx;obtain⟨p3,p4⟩:=key2 lb y hy;exact lowT_mono (k:=k) (by omega) p2 p4
theorem made_from {k:Int} {l:List Z2} {B:List Z5} (hw:Z9n l) (hB:Made k l B) (kf:ByteArray→Zi→Bool) {r:Z2} (hr:r∈l):Z4u kf r.f0 (B.flatMap (·.f1))=r.f1.filter (kf r.f0) :=
 rise_uniq (lt:=fun a b:Zi=>a.f0<b.f0) (fun a h=>by omega) (fun a b h=>by omega) (made_up hw hB kf r.f0) ((hw.up r hr).filter _) (made_mem hw hB kf hr)
theorem made_key {k:Int} {l:List Z2} {B:List Z5} (hw:Z9n l) (hB:Made k l B) {key:ByteArray}:key∈(B.flatMap (·.f1)).map (fun r:Z2=>r.f0)↔∃ r∈l,r.f0=key:=by
 rw[List.mem_map];constructor
 ·rintro⟨q,hq,rfl⟩
  obtain⟨lo,r,hr,g1,_⟩:=(Z9r hB).1 hq;exact⟨r,hr,g1.symm⟩
 ·rintro⟨r,hr,rfl⟩
  obtain⟨s,hs⟩:=List.exists_mem_of_ne_nil _ (hw.ne r hr);have hin:s∈Z2l k (lowT k s.f0) r.f1:=List.mem_filter.2 ⟨hs,by simp⟩;refine⟨⟨r.f0,Z2l k (lowT k s.f0) r.f1⟩,(Z9r hB).2 ⟨lowT k s.f0,r,hr,rfl,rfl,fun e => ?_⟩,rfl⟩;have e:Z2l k (lowT k s.f0) r.f1=[]:=e;rw[e] at hin;simp at hin
theorem zero_sum {α:Type}:∀ (C:List α) (f:α→Nat),(∀ b,f b=0)→(C.map f).sum=0
 | [],_,_=>rfl
 | b::C,f,h=>by rw[List.map_cons,List.sum_cons,h b,zero_sum C f h]
theorem made_lens {k:Int} {l:List Z2} {B:List Z5} (hw:Z9n l) (hB:Made k l B):B.length≤1200∧(∀ b∈B,b.f1.length≤64)∧((B.flatMap (·.f1)).map fun r=>r.f1.length).sum=(l.map fun r=>r.f1.length).sum∧(B.flatMap (·.f1)).length≤100000:=by
 have hb:∀ b∈B,b.f1.length≤64:=fun b hb=>by
  obtain⟨lo,_,rfl⟩:=(hB.mem b).1 hb;have:=Z8c k lo l;have:=hw.len;show(Z3a k lo l).length≤64;omega
 have hnd:(B.map fun b=>b.f0.f0).Nodup:=by
  rw[List.Nodup,List.pairwise_map];exact hB.up.imp (fun {a b} h e=>by omega)
 have hlen:B.length≤(l.flatMap fun r=>r.f1.map fun s=>lowT k s.f0).length:=by
  have:=Z9q (B.map fun b=>b.f0.f0) (l.flatMap fun r=>r.f1.map fun s=>lowT k s.f0) hnd (fun lo hlo=>by
   obtain⟨b,hb,rfl⟩:=List.mem_map.1 hlo;obtain⟨lo,hne,rfl⟩:=(hB.mem b).1 hb;obtain⟨q,hq⟩:=List.exists_mem_of_ne_nil _ hne;obtain⟨r,hr,g1,g2,g3⟩:=Z3r.1 hq;obtain⟨s,hs⟩:=List.exists_mem_of_ne_nil _ g3;rw[g2] at hs;have h2:=List.mem_filter.1 hs;exact List.mem_flatMap.2 ⟨r,hr,List.mem_map.2 ⟨s,h2.1,(of_decide_eq_true h2.2:lowT k s.f0=lo)⟩⟩)
  simpa using this
 have hlen2:(l.flatMap fun r=>r.f1.map fun s=>lowT k s.f0).length=(l.map fun r=>r.f1.length).sum:=by simp[List.length_flatMap]
 have hsum:=hw.sum;have hB1:B.length≤1200:=by omega
 refine⟨hB1,hb,?_,?_⟩
 ·
  have h1:((B.flatMap (·.f1)).map fun r=>r.f1.length).sum=(B.map fun b=>(b.f1.map fun r=>r.f1.length).sum).sum:=by
   clear hlen hnd hb hB hB1
   induction B with
   | nil=>rfl
   | cons b B ih=>rw[List.flatMap_cons,List.map_append,List.sum_append,ih,List.map_cons,List.sum_cons]
  have h2:∀ b∈B,(b.f1.map fun r=>r.f1.length).sum=(l.map fun r=>(Z2l k b.f0.f0 r.f1).length).sum:=fun b hb=>by
   obtain⟨lo,hne,rfl⟩:=(hB.mem b).1 hb;show((Z3a k lo l).map fun r=>r.f1.length).sum=(l.map fun r=>(Z2l k lo r.f1).length).sum;clear hlen hnd hb hB hB1 hw hsum hlen2 hne
   induction l with
   | nil=>rfl
   | cons r l ih =>
    have e:Z3a k lo (r::l)=Z1z r.f0 (Z2l k lo r.f1)++Z3a k lo l:=by simp[Z3a]
    rw[e,List.map_append,List.sum_append,ih,List.map_cons,List.sum_cons];congr 1;unfold Z1z;by_cases c:(Z2l k lo r.f1).isEmpty=true
    ·rw[if_pos c,List.isEmpty_iff.1 c];rfl
    ·rw[if_neg c];simp
  rw[h1,List.map_congr_left h2];have h3:∀ ss:List Zi,(∀ s∈ss,lowT k s.f0∈B.map fun b=>b.f0.f0)→(B.map fun b=>(Z2l k b.f0.f0 ss).length).sum=ss.length:=fun ss=>by
   induction ss with
   | nil=>intro _;exact zero_sum B _ (fun _=>rfl)
   | cons s ss ih =>
    intro h;have ih:=ih (fun x hx=>h x (by simp[hx]));have hone:∀ C:List Z5,(C.map fun b=>b.f0.f0).Nodup→(C.map fun b=>(Z2l k b.f0.f0 (s::ss)).length).sum=(C.map fun b=>(Z2l k b.f0.f0 ss).length).sum+(if lowT k s.f0∈C.map fun b=>b.f0.f0 then 1 else 0):=fun C=>by
     induction C with
     | nil=>intro _;rfl
     | cons b C ih2 =>
      intro hn;rw[List.map_cons,List.nodup_cons] at hn;have ih2:=ih2 hn.2;rw[List.map_cons,List.sum_cons,ih2,List.map_cons,List.sum_cons];by_cases c:lowT k s.f0=b.f0.f0
      ·have e1:(Z2l   k b.f0.f0 (s::ss)).length=(Z2l   k b.f0.f0 ss).length+1:=by simp[Z2l  ,c]
       rw[e1,if_pos (show lowT k s.f0∈(b::C).map fun b=>b.f0.f0 by rw[c];simp),if_neg (by rw[c];exact hn.1)];omega
      ·have e1:(Z2l   k b.f0.f0 (s::ss)).length=(Z2l   k b.f0.f0 ss).length:=by simp[Z2l  ,c]
       rw[e1];by_cases d:lowT k s.f0∈C.map fun b=>b.f0.f0
       ·rw[if_pos d,if_pos (show lowT k s.f0∈(b::C).map fun b=>b.f0.f0 by rw[List.map_cons];exact List.mem_cons_of_mem _ d)];omega
       ·rw[if_neg d,if_neg (show ¬ lowT k s.f0∈(b::C).map fun b=>b.f0.f0 by rw[List.map_cons,List.mem_cons];rintro(e | e);exact c e;exact d e)];omega
    rw[hone B hnd,ih,if_pos (h s (by simp))];rfl
  have h4:∀ (m:List Z2),(∀ r∈m,∀ s∈r.f1,lowT k s.f0∈B.map fun b=>b.f0.f0)→(B.map fun b=>(m.map fun r=>(Z2l k b.f0.f0 r.f1).length).sum).sum=(m.map fun r=>r.f1.length).sum:=fun m=>by
   induction m with
   | nil=>intro _;exact zero_sum B _ (fun _=>rfl)
   | cons r m ih =>
    intro h;have ih:=ih (fun x hx=>h x (by simp[hx]));have e:∀ C:List Z5,(C.map fun b=>((r::m).map fun r=>(Z2l k b.f0.f0 r.f1).length).sum).sum=(C.map fun b=>(Z2l k b.f0.f0 r.f1).length).sum+(C.map fun b=>(m.map fun r=>(Z2l k b.f0.f0 r.f1).length).sum).sum:=fun C=>by
     induction C with
     | nil=>rfl
     | cons b C ih2=>rw[List.map_cons,List.sum_cons,ih2,List.map_cons,List.sum_cons,List.map_cons,List.sum_cons,List.map_cons,List.sum_cons];omega
    rw[e,ih,h3 r.f1 (h r (by simp)),List.map_cons,List.sum_cons]
  refine h4 l (fun r hr s hs => ?_);have hin:s∈Z2l k (lowT k s.f0) r.f1:=List.mem_filter.2 ⟨hs,by simp⟩;have h5:(⟨r.f0,Z2l k (lowT k s.f0) r.f1⟩:Z2)∈Z3a k (lowT k s.f0) l:=Z3r.2 ⟨r,hr,rfl,rfl,fun e=>by
   have e:Z2l k (lowT k s.f0) r.f1=[]:=e;rw[e] at hin;simp at hin⟩
  exact List.mem_map.2 ⟨Z75 k (lowT k s.f0) l,(hB.mem _).2 ⟨_,fun e=>by rw[e] at h5;simp at h5,rfl⟩,rfl⟩
 ·have h1:(B.flatMap (·.f1)).length≤64*B.length:=by
   clear hlen hnd hB hB1
   induction B with
   | nil=>simp
   | cons b B ih =>
    rw[List.flatMap_cons,List.length_append,List.length_cons];have:=hb b (by simp);have:=ih (fun b hb'=>hb b (by simp[hb']));omega
  omega
theorem join_made (a0:List (ByteArray×Z0z)) {k:Int} {l:List Z2} {B:List Z5} (hw:Z9n l) (hB:Made k l B) (kf:ByteArray→Zi→Bool) (hk:∀ r:Z2,(∃ q∈l,r.f0=q.f0∧r.f1.length≤1200)→Z1w.f (⟨((mget a0 r.f0).getD ⟨[]⟩).f0⟩:Z0z) r.f1=some (r.f1.filter (kf r.f0))):Zg.f a0 B=some (l.flatMap fun r=>Z1z r.f0 (r.f1.filter (kf r.f0))):=by
 obtain⟨n1,n2,n3,n4⟩:=made_lens hw hB;have hsum:=hw.sum;refine join_spec a0 kf (by omega) (fun b hb=>by have:=n2 b hb;omega) (fun b hb r hr => ?_) (by omega) (by omega) (made_up hw hB kf) ?_ (fun q => ?_)
 ·obtain⟨lo,_,rfl⟩:=(hB.mem b).1 hb
  obtain⟨q,hq,g1,g2,g3⟩:=Z3r.1 hr;refine hk r ⟨q,hq,g1,?_⟩;have h1:r.f1.length≤q.f1.length:=by rw[g2];exact List.length_filter_le _ _
  have h2:=sum_mem (fun r:Z2=>r.f1.length) hq;omega
 ·rw[List.pairwise_flatMap]
  have hm:∀ (r:Z2) (q:Z2),q∈Z1z r.f0 (r.f1.filter (kf r.f0))→q.f0=r.f0:=fun r q hq=>by
   unfold Z1z at hq;split at hq
   ·simp at hq
   ·rw[List.mem_singleton.1 hq]
  refine⟨fun r hr => ?_,hw.keys.imp (fun {a b} h x hx y hy=>by rw[hm a x hx,hm b y hy];exact h)⟩;unfold Z1z;split<;>simp
 ·rw[List.mem_flatMap,made_key hw hB]
  constructor
  ·rintro⟨r,hr,h⟩
   unfold Z1z at h;split at h
   ·simp at h
   ·rename_i c
    obtain rfl:=List.mem_singleton.1 h;exact⟨⟨r,hr,rfl⟩,by simpa using c,(made_from hw hB kf hr).symm⟩
  ·rintro⟨⟨r,hr,e⟩,h1,h2⟩
   rw[← e,made_from hw hB kf hr] at h2;refine⟨r,hr,?_⟩;unfold Z1z;rw[if_neg (by rw[← h2];simpa using h1),← h2,e];exact List.mem_singleton.2 rfl
theorem wrows_of {l:List Z2} (h:Z8n none l=true) (hl:l.length≤64) (hs:Z48 l≤1200):Z9n l:=by
 obtain⟨h1,h2,_⟩:=rowsB_ok l none h;refine⟨hl,fun r hr=>(h1 r hr).2.2,fun r hr=>(rise_up _ _ (h1 r hr).2.1).1,fun r hr s hs => ?_,h2,by have:=(Z7z l).2;omega⟩;have:=rise_ok _ _ (h1 r hr).2.1 s hs;simp only[sok,Zb7,Bool.and_eq_true,decide_eq_true_eq] at this;exact⟨this.1.1,by omega⟩
theorem lev5 {a:Int} (h:0≤a∧a<256):i64.wrap (Int.tmod a 5)=a % 5∧0≤a % 5∧a % 5≤4:=by
 rw[Int.tmod_eq_emod_of_nonneg h.1,Z0b (by omega) (by omega)];omega
theorem rise_of:∀ (l:List Zi) (p:Option Zi),(∀ s∈l,sok s=true)→l.Pairwise (fun a b=>a.f0<b.f0)→(∀ q,p=some q→∀ s∈l,q.f0<s.f0)→rise p l=true
 | [],_,_,_,_=>rfl
 | s::l,p,h1,h2,h3=>by
  obtain⟨g1,g2⟩:=List.pairwise_cons.1 h2;have ih:=rise_of l (some s) (fun x hx=>h1 x (by simp[hx])) g2 (fun q hq x hx=>by obtain rfl:=Option.some.inj hq;exact g1 x hx);have ha:aft p s=true:=by
   cases p with
   | none=>rfl
   | some q=>exact decide_eq_true (h3 q rfl s (by simp))
  rw[rise,ih,Bool.and_true];unfold good;rw[h1 s (by simp),ha];rfl
structure KRows (l:List Z2):Prop where
 base:Z9n l
 kb:∀ r∈l,keyB r.f0=true
 sk:∀ r∈l,∀ s∈r.f1,sok s=true
 rb:∀ r∈l,RowB r
 sz:∀ r∈l,∀ s∈r.f1,s.f1.f6.length<1000000000000∧s.f1.f7.length<1000000000000
theorem krows_of {l:List Z2} (hR:∀ r∈l,Z3b r) (h:Z8n none l=true) (hl:l.length≤64) (hs:Z48 l≤1200):KRows l:=by
 obtain⟨h1,h2,_⟩:=rowsB_ok l none h;exact⟨wrows_of h hl hs,fun r hr=>(h1 r hr).1,fun r hr s hs=>rise_ok _ _ (h1 r hr).2.1 s hs,rowB_of hR hs,fun r hr s hs=>⟨by have:=((hR r hr).r1.2 s hs).r1.r6.1;omega,by have:=((hR r hr).r1.2 s hs).r1.r7.1;omega⟩⟩
theorem blk_ok {k lo:Int} (h0:0≤k) (h4:k≤4) {l:List Z2} (hw:KRows l) (hne:Z3a k lo l≠[]):BlkOK (Z75 k lo l)∧∀ r∈(Z75 k lo l).f1,RowB r:=by
 have hlow:0≤lo∧lo≤1099511627776∧lo % wide k=0:=by
  obtain⟨q,hq⟩:=List.exists_mem_of_ne_nil _ hne;obtain⟨r,hr,g1,g2,g3⟩:=Z3r.1 hq;obtain⟨s,hs⟩:=List.exists_mem_of_ne_nil _ g3;rw[g2] at hs;have h2:=List.mem_filter.1 hs;have e:lowT k s.f0=lo:=of_decide_eq_true h2.2;have h3:=hw.sk r hr s h2.1;simp only[sok,Zb7,Bool.and_eq_true,decide_eq_true_eq] at h3;have h5:=Z7k (k:=k) h3.1.1;rw[e] at h5;exact⟨h5.1,by omega,h5.2.2.2⟩
 have hmem:∀ q∈Z3a k lo l,∃ r∈l,q.f0=r.f0∧q.f1=Z2l k lo r.f1∧q.f1≠[]:=fun q hq=>Z3r.1 hq
 refine⟨⟨⟨h0,h4,hlow.1,hlow.2.1,hlow.2.2,rfl⟩,hne,by have:=Z8c k lo l;have:=hw.base.len;show(Z3a k lo l).length≤64;omega,fun q hq => ?_,?_⟩,fun q hq => ?_⟩
 ·obtain⟨r,hr,g1,g2,g3⟩:=hmem q hq
  refine⟨by rw[g1];exact hw.kb r hr,g3,?_,fun s hs => ?_⟩
  ·rw[g2]
   exact rise_of _ none (fun s hs=>hw.sk r hr s (List.mem_filter.1 hs).1) ((hw.base.up r hr).filter _) (fun q hq=>by cases hq)
  ·rw[g2] at hs
   have h2:=List.mem_filter.1 hs;have e:lowT k s.f0=lo:=of_decide_eq_true h2.2;have h5:=Z7k (k:=k) (hw.base.tm r hr s h2.1).1;rw[e] at h5;exact⟨h5.2.1,h5.2.2.1⟩
 ·show(Z3a   k lo l).Pairwise _
  unfold Z3a;rw[List.pairwise_flatMap];have hm:∀ (r:Z2) (q:Z2),q∈Z1z r.f0 (Z2l k lo r.f1)→q.f0=r.f0:=fun r q hq=>by
   unfold Z1z at hq;split at hq
   ·simp at hq
   ·rw[List.mem_singleton.1 hq]
  refine⟨fun r hr => ?_,hw.base.keys.imp (fun {a b} h x hx y hy=>by rw[hm a x hx,hm b y hy];exact h)⟩;unfold Z1z;split<;>simp
 ·obtain⟨r,hr,g1,g2,g3⟩:=hmem q hq
  have hb:=hw.rb r hr
  exact ⟨by rw [g1]; exact hb.k, by have := hb.n; have : q.f1.length ≤ r.f1.length := by rw [g2]; exact List.length_filter_le _ _
                                    omega,fun s hs=>hb.f s (by rw[g2] at hs;exact(List.mem_filter.1 hs).1)⟩
def smps (l:List Z2):Nat:=(l.map fun r=>r.f1.length).sum
theorem bm_l0 (a0:List Z2) (a1:Int) (a2:List Z4) (hl:a0.length≤100000) (hs:smps a0≤100000):∀ (suf pre:List Z2) (n i:Int),a0=pre++suf→i=(pre.length:Int)→n=(smps pre:Int)→Zs.l0 a0 a1 a2 pre n i=some (a0,(smps a0:Int)):=by
 intro suf
 induction suf with
 | nil=>intro pre n i h1 hi hn;rw[Zs.l0,if_neg (by rw[h1];simp[hi]),h1];simp[hn]
 | cons r suf ih =>
  intro pre n i h1 hi hn;have hlen:a0.length=pre.length+(suf.length+1):=by rw[h1];simp
  have e1:smps a0=smps pre+(r.f1.length+smps suf):=by rw[h1];simp[smps]
  rw[Zs.l0,if_pos (by simp;omega),Z1s h1 hi,sb,chkB (by simp;omega),Z0b (n:=n+_) (by omega) (by omega),Z0b (by omega) (by omega)];exact ih (pre++[r]) _ (i+1) (by simp[h1]) (by simp;omega) (by rw[hn];simp[smps])
theorem bm_l2 (a0:List Z2) (a1:Int) (a2:List Z4) (b:Z5) (t:List Z5) (x y:Int) (hl:b.f1.length≤100000) (N:Nat) (hN:N+smps b.f1≤100000):∀ (suf pre:List Z2) (n i:Int),b.f1=pre++suf→i=(pre.length:Int)→n=((N+smps pre:Nat):Int)→Zs.l2 a0 a1 a2 b t x y n i=some ((N+smps b.f1:Nat):Int):=by
 intro suf
 induction suf with
 | nil=>intro pre n i h1 hi hn;rw[Zs.l2,if_neg (by rw[h1];simp[hi]),h1];simp[hn]
 | cons r suf ih =>
  intro pre n i h1 hi hn;have hlen:b.f1.length=pre.length+(suf.length+1):=by rw[h1];simp
  have e1:smps b.f1=smps pre+(r.f1.length+smps suf):=by rw[h1];simp[smps]
  rw[Zs.l2,if_pos (by simp;omega),Z1s h1 hi,sb,Z0b (n:=n+_) (by omega) (by omega),Z0b (by omega) (by omega)];exact ih (pre++[r]) _ (i+1) (by simp[h1]) (by simp;omega) (by rw[hn];simp[smps];omega)
theorem low_next {k a b:Int} (h:a<b) (ha:a % wide k=0) (hb:b % wide k=0):a+wide k≤b:=by
 have hw:=Z5w k;have e1:=Int.mul_ediv_add_emod a (wide k);have e2:=Int.mul_ediv_add_emod b (wide k);rw[ha] at e1;rw[hb] at e2;have h1:a / wide k<b / wide k:=by
  by_cases c:a / wide k<b / wide k
  ·exact c
  ·exfalso
   have:=Int.mul_le_mul_of_nonneg_left (show b / wide k≤a / wide k by omega) (show 0≤wide k by omega);omega
 have h2:=Int.mul_le_mul_of_nonneg_left (show a / wide k+1≤b / wide k by omega) (show 0≤wide k by omega);rw[Int.mul_add,Int.mul_one] at h2;omega
theorem bm_l1 (a0:List Z2) (a1:Int) (a2:List Z4) (x:Int) {k:Int} (hk:i64.wrap (Int.tmod a1 5)=k) (h0:0≤k) (h4:k≤4) (hw:KRows a0) {X:List Z5} (hX:Made k a0 X) (hsum:smps (X.flatMap (·.f1))≤100000) (hl:X.length≤100000) :
  ∀ (suf pre:List Z5) (n i:Int),X=pre++suf→i=(pre.length:Int)→n=(smps (pre.flatMap (·.f1)):Int)→Zs.l1 a0 a1 a2 X x n i=some (.inr (smps (X.flatMap (·.f1)):Int)):=by
 intro suf
 induction suf with
 | nil=>intro pre n i h1 hi hn;rw[List.append_nil] at h1;subst h1;rw[Zs.l1,if_neg (by simp[hi])];simp[hn]
 | cons b suf ih =>
  intro pre n i h1 hi hn;have hlen:X.length=pre.length+(suf.length+1):=by rw[h1];simp
  have hbX:b∈X:=by rw[h1];simp
  obtain⟨lo,hne,hbe⟩:=(hX.mem b).1 hbX;obtain⟨q1,q2⟩:=blk_ok h0 h4 hw hne;rw[← hbe] at q1 q2;have hbl:b.f1.length≤64:=q1.len;have e1:smps (X.flatMap (·.f1))=smps (pre.flatMap (·.f1))+(smps b.f1+smps (suf.flatMap (·.f1))):=by rw[h1];simp[smps]
  have hchk:Z1d.f (ofBlk b)=some 0:=by
   rw[rcheck16 (ofBlk b) (by show b.f1.length<_;omega) q2,show toBlk (ofBlk b)=b from rfl,(blkC_ok b).2 q1]
  have hlev:b.f0.f2=k:=by rw[hbe];rfl
  have hprev:((if(decide (i>(0:Int)))=true then((at? X (i64.wrap (i-(1:Int))))>>=fun b3174=>some (decide (b3174.f0.f1>b.f0.f0))) else(some false)):Option Bool)=some false:=by
   rcases List.eq_nil_or_concat pre with rfl | ⟨Q,q,rfl⟩
   ·rw[if_neg (by simp[hi])]
   ·rw[List.concat_eq_append] at *
    have hi3:i=(Q.length:Int)+1:=by rw[hi];simp
    have hqX:q∈X:=by rw[h1];simp
    obtain⟨lq,hneq,hqe⟩:=(hX.mem q).1 hqX;obtain⟨z1,_⟩:=blk_ok h0 h4 hw hneq;rw[if_pos (decide_eq_true (by omega)),Z0b (n:=i-1) (by omega) (by omega)];rw[show at? X (i-1)=some q from Z1s (pre:=Q) (suf:=b::suf) (by rw[h1];simp) (by omega),sb];congr 1;refine decide_eq_false (fun hgt => ?_);have hlt:q.f0.f0<b.f0.f0:=by
     have:=hX.up;rw[h1,List.append_assoc] at this;exact(List.pairwise_cons.1 (List.pairwise_append.1 this).2.1).1 b (by simp)
    have m1:=z1.m;have m2:=q1.m;rw[← hqe] at m1;obtain⟨_,_,_,_,r1,r2⟩:=m1;obtain⟨_,_,_,_,r3,_⟩:=m2;rw[hlev] at r3;have hlq:q.f0.f2=k:=by rw[hqe];rfl
    rw[hlq] at r1 r2;have:=low_next hlt r1 r3;omega
  rw[Zs.l1,if_pos (by simp;omega),Z1s h1 hi,sb,fr16 b (by omega),sb,hchk,sb,if_neg (by simp),hk,if_neg (by rw[hlev];simp),hprev,sb,if_neg (by simp)];rw[bm_l2 a0 a1 a2 b X x i (by omega) (smps (pre.flatMap (·.f1))) (by omega) b.f1 [] n 0 rfl rfl (by rw[hn];simp[smps]),sb,Z0b (by omega) (by omega)];exact ih (pre++[b]) _ (i+1) (by simp[h1]) (by simp;omega) (by simp[smps])
noncomputable def Z4g (c:List Z4):Nat→List Z2→List Z2
 | _,[]=>[]
 | i,r::l=>Z1z r.f0 (if i % 2=0 then r.f1.filter (fun s => !hasB c s.f0) else r.f1)++Z4g c (i+1) l
theorem Zb6 (c:List Z4) (r:Z2):∀ (l:List Z2) (i:Nat),Z4g c i (l++[r])=Z4g c i l++Z1z r.f0 (if(i+l.length) % 2=0 then r.f1.filter (fun s => !hasB c s.f0) else r.f1)
 | [],i=>by simp[Z4g]
 | x::l,i=>by
  rw[List.cons_append,Z4g,Zb6 c r l (i+1),Z4g,List.append_assoc,List.length_cons,show i+1+l.length=i+(l.length+1) by omega]
theorem Za0 (c:List Z4):∀ (l:List Z2) (i:Nat),(Z4g c i l).length≤l.length
 | [],i=>by simp[Z4g]
 | x::l,i=>by
  have:=Za0 c l (i+1);have h1:∀ ss,(Z1z x.f0 ss).length≤1:=fun ss=>by unfold Z1z;split<;>simp
  have:=h1 (if i % 2=0 then x.f1.filter (fun s => !hasB c s.f0) else x.f1);rw[Z4g,List.length_append,List.length_cons];omega
theorem bm_l4 (a0:List Z2) (a2:List Z4) (b:Z2) (t:List Z5) (S':Z0z) (x y:Int) (T:List (ByteArray×Z0z)) (W:List Z2) (z:Int) (hc:a2.length<1000000000) (hl:b.f1.length≤100000) :
  ∀ (suf pre:List Zi) (i:Int),b.f1=pre++suf→i=(pre.length:Int)→Zs.l4 a0 a2 b t S' x y T W z (pre.filter fun s => !hasB a2 s.f0) i=some (b.f1.filter fun s => !hasB a2 s.f0):=by
 intro suf
 induction suf with
 | nil=>intro pre i h1 hi;rw[List.append_nil] at h1;rw[Zs.l4,if_neg (by rw[h1];simp[hi]),h1]
 | cons s suf ih =>
  intro pre i h1 hi;have hlen:b.f1.length=pre.length+(suf.length+1):=by rw[h1];simp
  have hfl:(pre.filter fun s => !hasB a2 s.f0).length≤pre.length:=List.length_filter_le _ _;rw[Zs.l4,if_pos (by simp;omega),Z1s h1 hi,sb,refHas a2 s.f0 hc,sb];have hn:=ih (pre++[s]) (i+1) (by simp[h1]) (by simp;omega);rw[List.filter_append] at hn;cases h:hasB a2 s.f0 with
  | true =>
   rw[if_neg (by simp),sb,Z0b (by omega) (by omega)];simpa[h] using hn
  | false =>
   rw[if_pos (by rfl),chkB (by simp only[List.length_cons,List.length_nil];omega),sb,Z0b (by omega) (by omega)];simpa[h] using hn
structure TRep (c:List Z4) (l:List Z2) (T:List (ByteArray×Z0z)):Prop where
 at_:∀ j r,l[j]? = some r→mget T r.f0=if j % 2=0 then some ⟨c⟩ else none
 non:∀ key,key ∉ l.map (fun r:Z2=>r.f0)→mget T key=none
theorem TRep.snoc {c:List Z4} {l:List Z2} {T:List (ByteArray×Z0z)} (h:TRep c l T) (r:Z2) (hr:∀ q∈l,q.f0≠r.f0):TRep c (l++[r]) (if l.length % 2=0 then mput T r.f0 ⟨c⟩ else T):=by
 have hrl:r.f0 ∉ l.map (fun r:Z2=>r.f0):=fun e=>by
  obtain⟨q,hq,e⟩:=List.mem_map.1 e;exact hr q hq e
 refine⟨fun j q hq => ?_,fun key hk => ?_⟩
 ·by_cases c1:j<l.length
  ·rw[List.getElem?_append_left c1] at hq
   have hne:=hr q (List.mem_of_getElem? hq);have:=h.at_ j q hq;split
   ·rw[mgetp,if_neg (fun e=>hne e.symm)];exact this
   ·exact this
  ·have hj:j=l.length:=by
    have:=(List.getElem?_eq_some_iff.1 hq).1;simp at this;omega
   subst hj;have hqr:q=r:=by simpa using hq.symm
   subst hqr;split
   ·rw[mgetp,if_pos rfl]
   ·exact h.non _ hrl
 ·rw[List.map_append,List.mem_append,not_or] at hk
  have hne:r.f0≠key:=fun e=>hk.2 (by simp[e]);split
  ·rw[mgetp,if_neg hne];exact h.non _ hk.1
  ·exact h.non _ hk.1
theorem bm_l3 (a0:List Z2) (a2:List Z4) (t:List Z5) (x y:Int) (hc:a2.length<100000) {c:List Z4} (hOf:Z2y.f a2=some ⟨c⟩) (hw:KRows a0):∀ (suf pre:List Z2) (T:List (ByteArray×Z0z)) (i:Int),a0=pre++suf→i=(pre.length:Int)→TRep c pre T →
  ∃ T',Zs.l3 a0 a2 t x y T (Z4g a2 0 pre) i=some (T',Z4g a2 0 a0)∧TRep c a0 T':=by
 intro suf
 induction suf with
 | nil=>intro pre T i h1 hi hT;rw[List.append_nil] at h1;subst h1;rw[Zs.l3,if_neg (by simp[hi])];exact⟨T,rfl,hT⟩
 | cons r suf ih =>
  intro pre T i h1 hi hT;have hlen:a0.length=pre.length+(suf.length+1):=by rw[h1];simp
  have hl:=hw.base.len;have hwl:=Za0 a2 pre 0;have hra:r∈a0:=by rw[h1];simp
  have hrl:r.f1.length≤1200:=by have:=sum_mem (fun r:Z2=>r.f1.length) hra;have:=hw.base.sum;omega
  have hne:∀ q∈pre,q.f0≠r.f0:=fun q hq=>by
   have:=hw.base.ne_keys;rw[h1] at this;exact(List.pairwise_append.1 this).2.2 q hq r (by simp)
  have hT2:=hT.snoc r hne;have hout:∀ ss:List Zi,(((if(decide ((ss.length:Int)>(0:Int)))=true then((chk (((Z4g a2 0 pre).length+[(⟨r.f0,ss⟩:Z2)].length)*40≤140737488355328))>>=fun _=>some (Z4g a2 0 pre++[(⟨r.f0,ss⟩:Z2)])) else(some (Z4g a2 0 pre))):Option (List Z2)))=some (Z4g a2 0 pre++Z1z r.f0 ss):=fun ss=>by
   unfold Z1z;by_cases c:ss=[]
   ·subst c;rw[if_neg (by simp)];simp
   ·have:=List.length_pos_iff.2 c
    rw[if_pos (decide_eq_true (by omega)),chkB (by simp only[List.length_cons,List.length_nil];omega),if_neg (by simpa using c)]
  rw[Zs.l3,if_pos (by simp;omega),Z1s h1 hi,sb];have hi2:Int.tmod i 2=((pre.length % 2:Nat):Int):=by rw[Int.tmod_eq_emod_of_nonneg (by omega)];omega
  have e0:Z4g a2 0 (pre++[r])=_:=Zb6 a2 r pre 0;rw[Nat.zero_add] at e0;by_cases c1:pre.length % 2=0
  ·rw[if_pos (by rw[hi2,c1];rfl),t_to_eq a2 (by omega),sb,hOf,sb,show([]:List Zi     )=([]:List Zi     ).filter (fun s => !hasB a2 s.f0) from rfl,bm_l4 a0 a2 r t ⟨c⟩ x y T (Z4g   a2 0 pre) i (by omega) (by omega) r.f1 [] 0 rfl rfl,sb,sb]
   dsimp only;rw[hout,sb,Z0b (by omega) (by omega)];rw[if_pos c1] at hT2 e0;obtain⟨T',g1,g2⟩:=ih (pre++[r]) _ (i+1) (by simp[h1]) (by simp;omega) hT2;rw[e0] at g1;exact⟨T',g1,g2⟩
  ·rw[if_neg (by rw[hi2];simp;omega),sb]
   dsimp only;rw[hout,sb,Z0b (by omega) (by omega)];rw[if_neg c1] at hT2 e0;obtain⟨T',g1,g2⟩:=ih (pre++[r]) _ (i+1) (by simp[h1]) (by simp;omega) hT2;rw[e0] at g1;exact⟨T',g1,g2⟩
theorem bm_l5 (q:List Z2) (x y:Int) (w:List Z2) (hl:q.length≤100000):∀ (suf pre:List Z2) (i:Int),q=pre++suf→i=(pre.length:Int)→Zs.l5 q x y w pre i=some q:=by
 intro suf
 induction suf with
 | nil=>intro pre i h1 hi;rw[Zs.l5,if_neg (by rw[h1];simp[hi]),h1];simp
 | cons r suf ih =>
  intro pre i h1 hi;have hlen:q.length=pre.length+(suf.length+1):=by rw[h1];simp
  rw[Zs.l5,if_pos (by simp;omega),Z1s h1 hi,sb,chkB (by simp;omega),Z0b (by omega) (by omega)];exact ih (pre++[r]) (i+1) (by simp[h1]) (by simp;omega)
theorem trep_val {c:List Z4} {l:List Z2} {T:List (ByteArray×Z0z)} (h:TRep c l T) (key:ByteArray):((mget T key).getD ⟨[]⟩).f0=c∨((mget T key).getD ⟨[]⟩).f0=[]:=by
 by_cases k:key∈l.map (fun r:Z2=>r.f0)
 ·obtain⟨r,hr,rfl⟩:=List.mem_map.1 k
  obtain⟨j,hj⟩:=List.getElem?_of_mem hr;have:=h.at_ j r hj;split at this
  ·left;rw[this];rfl
  ·right;rw[this];rfl
 ·right;rw[h.non _ k];rfl
theorem flat_want {c cut:List Z4} {T:List (ByteArray×Z0z)} (hcut:∀ t,hasB c t=hasB cut t):∀ (suf:List Z2) (i:Nat),(∀ j r,suf[j]? = some r→mget T r.f0=if(i+j) % 2=0 then some ⟨c⟩ else none) →
  (suf.flatMap fun r=>Z1z r.f0 (r.f1.filter fun s => !hasB ((mget T r.f0).getD ⟨[]⟩).f0 s.f0))=Z4g cut i suf
 | [],i,_=>rfl
 | r::l,i,h=>by
  rw[List.flatMap_cons,flat_want hcut l (i+1) (fun j q hq=>by have:=h (j+1) q (by simpa using hq);rw[show i+1+j=i+(j+1) by omega];exact this),Z4g];congr 1;have h0:=h 0 r rfl;rw[Nat.add_zero] at h0;rw[h0];by_cases e:i % 2=0
  ·rw[if_pos e,if_pos e]
   congr 1;refine List.filter_congr (fun s _ => ?_);show(!hasB c s.f0)=_;rw[hcut]
  ·rw[if_neg e,if_neg e]
   congr 1;refine List.filter_eq_self.2 (fun s _ => ?_);show(!hasB [] s.f0)=true;rw[hasB_nil];rfl
theorem oneRow_mem {key:ByteArray} {ss:List Zi} {q:Z2} (h:q∈Z1z key ss):q=⟨key,ss⟩:=by
 unfold Z1z at h;by_cases c:ss.isEmpty=true
 ·rw[if_pos c] at h;simp at h
 ·rw[if_neg c] at h;exact List.mem_singleton.1 h
theorem want_sz (c:List Z4):∀ (l:List Z2) (i:Nat),(∀ r∈l,r.f1.length<1000000000000∧∀ s∈r.f1,s.f1.f6.length<1000000000000∧s.f1.f7.length<1000000000000)→∀ r∈Z4g c i l,r.f1.length<1000000000000∧∀ s∈r.f1,s.f1.f6.length<1000000000000∧s.f1.f7.length<1000000000000
 | [],i,_,r,hr=>by simp[Z4g] at hr
 | x::l,i,h,r,hr=>by
  rw[Z4g] at hr;rcases List.mem_append.1 hr with hr | hr
  ·have hr:=oneRow_mem hr
   subst hr
   ·obtain⟨h1,h2⟩:=h x (by simp)
    dsimp only;split
    ·exact⟨Nat.lt_of_le_of_lt (List.length_filter_le _ _) h1,fun s hs=>h2 s (List.mem_filter.1 hs).1⟩
    ·exact⟨h1,h2⟩
  ·exact want_sz c l (i+1) (fun r hr=>h r (by simp[hr])) r hr
theorem blockMakes_R (a0:List Z2) (a1:Int) (a2:List Z4) (R0:a0.length≤1048576∧∀ y∈a0,Z3b y) (R1:Rng 0 256 a1) (R2:a2.length≤1048576∧∀ y∈a2,Z68 y):Zs.f a0 a1 a2=some true:=by
 obtain⟨hlen,hR⟩:=R0;unfold Zs.f;rw[light16 a0 hlen hR,sb];by_cases hL:Z48 a0≤1200
 case neg=>rw[decide_eq_false hL,if_pos (show(!false)=true from rfl),sb,if_pos rfl,awake16,sb]
 rw[decide_eq_true hL,if_neg (by simp)];have hrb:=rowB_of hR hL;have hl2:a0.length≤1200:=by have:=(Z7z a0).1;omega
 rw[rows16 a0 (by omega) hrb,sb];cases hrw:(Z8n none a0&&decide (a0.length≤64)) with
 | false=>rw[if_pos (show(!false)=true from rfl),sb,if_pos rfl,awake16,sb]
 | true =>
  rw[if_neg (by simp),sb];by_cases hcut:(a2.length:Int)>20
  case pos=>rw[if_pos (decide_eq_true hcut),awake16,sb]
  rw[if_neg (by simpa using hcut)];simp only[Bool.and_eq_true,decide_eq_true_eq] at hrw;have hw:=krows_of hR hrw.1 hrw.2 hL;obtain⟨e1,p1,p2⟩:=lev5 R1;have hsum:=hw.base.sum;have hsum':smps a0≤1200:=hsum;obtain⟨X,hX,mX⟩:=make_spec p1 p2 hw.base.mkIn (by omega);obtain⟨n1,n2,n3,n4⟩:=made_lens hw.base mX;have n3':smps (X.flatMap (·.f1))=smps a0:=n3;obtain⟨c,hOf,hA,hHas,hcl⟩:=of_spec a2 (by omega);have hcut2:∀ t,hasB c t=hasB a2 t:=fun t=>Bool.eq_iff_iff.2 ((Z6y _ _).trans ((hHas t).trans (Z6y _ _).symm))
  obtain⟨T,g1,g2⟩:=bm_l3 a0 a2 X ((smps a0:Nat):Int) ((smps a0:Nat):Int) (by omega) hOf hw a0 [] [] 0 rfl rfl ⟨fun j r h=>by simp at h,fun key h=>rfl⟩;have g1':Zs.l3 a0 a2 X ((smps a0:Nat):Int) ((smps a0:Nat):Int) ([]:List (ByteArray×Z0z)) [] 0=some (T,Z4g a2 0 a0):=g1;have hjoin:Zg.f T X=some (Z4g a2 0 a0):=by
   rw[join_made T hw.base mX (fun key s => !hasB ((mget T key).getD ⟨[]⟩).f0 s.f0) (fun r ⟨q,hq,_,h⟩=>by
    rcases trep_val g2 r.f0 with h1 | h1
    ·rw[h1];exact t_keep_eq c (by omega) hA r.f1 (by omega)
    ·rw[h1];exact t_keep_eq [] (by simp) Z96.nil r.f1 (by omega)),flat_want hcut2 a0 0 (fun j r h=>by rw[Nat.zero_add];exact g2.at_ j r h)]
  have hsz:∀ r∈a0,r.f1.length<1000000000000∧∀ s∈r.f1,s.f1.f6.length<1000000000000∧s.f1.f7.length<1000000000000:=fun r hr=>⟨by have:=(hrb r hr).n;omega,hw.sz r hr⟩
  have hwl:=Za0 a2 a0 0;have hsame:=same16 (Z4g a2 0 a0) (by omega) (want_sz a2 a0 0 hsz);rw[bm_l0 a0 a1 a2 (by omega) (by omega) a0 [] 0 0 rfl rfl rfl,sb];dsimp only;rw[e1,hX,sb,bm_l1 a0 a1 a2 _ e1 p1 p2 hw mX (by omega) (by omega) X [] 0 0 rfl rfl rfl,sb];dsimp only;rw[n3',g1',sb];dsimp only;rw[hjoin,sb,bm_l5 (Z4g a2 0 a0) _ _ _ (by omega) (Z4g a2 0 a0) [] 0 rfl rfl,sb,awake16,sb,if_pos rfl,if_pos (by simp),hsame,sb,sb]
end Go.Proofs.YtpoihfcehejgfaaGreat.PvGS
