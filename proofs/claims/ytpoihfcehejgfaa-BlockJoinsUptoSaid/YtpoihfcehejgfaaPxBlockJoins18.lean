import Derived.Test.YtpoihfcehejgfaaPxBlockJoins17
set_option linter.unusedVariables false
set_option linter.unusedSimpArgs false
set_option maxRecDepth 10000
namespace Go.Proofs.Ytpoihfcehejgfaa.PvGP
open Go Go.Pv Go.Pv.GS Go.IntKind
theorem mgetp {K V:Type} [DecidableEq K] (k k':K) (v:V):∀ (l:List (K×V)),mget (mput l k v) k'=if k=k' then some v else mget l k'
 | []=>by simp[mput,mget]
 | p::l=>by
  rw[mput];by_cases c:p.1=k
  ·rw[if_pos c,mget,mget]
   by_cases d:k=k'
   ·simp[d]
   ·simp[d,c]
  ·rw[if_neg c,mget,mget,mgetp k k' v l]
   by_cases d:k=k'
   ·subst d;simp[c]
   ·simp[d]
theorem mput_keys {K V:Type} [DecidableEq K] (k:K) (v:V):∀ (l:List (K×V)) (x:K),x∈(mput l k v).map (·.1)↔x=k∨x∈l.map (·.1)
 | [],x=>by simp[mput]
 | p::l,x=>by
  rw[mput];by_cases c:p.1=k
  ·rw[if_pos c,List.map_cons,List.map_cons,List.mem_cons,List.mem_cons,c]
   constructor
   ·rintro(h | h)
    ·exact .inl h
    ·exact .inr (.inr h)
   ·rintro(h | h | h)
    ·exact .inl h
    ·exact .inl h
    ·exact .inr h
  ·rw[if_neg c,List.map_cons,List.map_cons,List.mem_cons,List.mem_cons,mput_keys k v l x]
   constructor
   ·rintro(h | h | h)
    ·exact .inr (.inl h)
    ·exact .inl h
    ·exact .inr (.inr h)
   ·rintro(h | h | h)
    ·exact .inr (.inl h)
    ·exact .inl h
    ·exact .inr (.inr h)
theorem Z7j {K V:Type} [DecidableEq K] (k:K) (v:V):∀ (l:List (K×V)),(l.map (·.1)).Nodup→((mput l k v).map (·.1)).Nodup
 | [],_=>by simp[mput]
 | p::l,h=>by
  rw[List.map_cons,List.nodup_cons] at h;rw[mput];by_cases c:p.1=k
  ·rw[if_pos c,List.map_cons,List.nodup_cons,← c];exact h
  ·rw[if_neg c,List.map_cons,List.nodup_cons]
   refine⟨fun hm => ?_,Z7j k v l h.2⟩;rcases(mput_keys k v l p.1).1 hm with h1 | h1
   ·exact c h1
   ·exact h.1 h1
theorem Z5q {K V:Type} [DecidableEq K]:∀ (l:List (K×V)),(l.map (·.1)).Nodup→∀ k v,mget l k=some v↔(k,v)∈l
 | [],_,k,v=>by simp[mget]
 | p::l,h,k,v=>by
  rw[List.map_cons,List.nodup_cons] at h;rw[mget,List.mem_cons];by_cases c:p.1=k
  ·rw[if_pos c]
   constructor
   ·intro e;left;obtain rfl:=Option.some.inj e;rw[← c]
   ·rintro(e | e)
    ·rw[← e]
    ·exact absurd (List.mem_map.2 ⟨_,e,rfl⟩) (c ▸ h.1)
  ·rw[if_neg c,Z5q      l h.2]
   constructor
   ·exact .inr
   ·rintro(e | e)
    ·exact absurd (by rw[← e]) c
    ·exact e
theorem rise_uniq {α:Type} {lt:α→α→Prop} (irr:∀ a,¬ lt a a) (asy:∀ a b,lt a b→¬ lt b a) {a b:List α} (ha:a.Pairwise lt) (hb:b.Pairwise lt) (h:∀ x,x∈a↔x∈b):a=b:=by
 have key:∀ x y:α,lt x y→x≠y:=fun x y h e=>irr x (by rw[← e] at h;exact h)
 have na:a.Nodup:=ha.imp (fun {x y} h=>key x y h);have nb:b.Nodup:=hb.imp (fun {x y} h=>key x y h);exact List.Perm.eq_of_pairwise (fun x y _ _ h1 h2=>absurd h2 (asy x y h1)) ha hb ((List.perm_ext_iff_of_nodup na nb).2 h)
theorem Z8d {α:Type} [DecidableEq α]:∀ (a b:List α),a.Nodup→(∀ x∈a,x∈b)→a.length≤b.length
 | [],_,_,_=>Nat.zero_le _
 | x::a,b,h,hs=>by
  obtain⟨h1,h2⟩:=List.nodup_cons.1 h;have hx:=hs x (by simp);have:=Z8d a (b.erase x) h2 (fun y hy=>(List.mem_erase_of_ne (fun e=>h1 (by rw[← e];exact hy))).2 (hs y (by simp[hy])));rw[List.length_erase_of_mem hx] at this;have:=List.length_pos_of_mem hx;simp only[List.length_cons];omega
def lowT (k t:Int):Int:=t-t % wide k
def Z1z (k lo:Int) (l:List Zf):List Zf:=l.filter fun s=>decide (lowT k s.f0=lo)
def Z1v (key:ByteArray) (ss:List Zf):List Z2:=if ss.isEmpty=true then [] else [⟨key,ss⟩]
def Z2v (k lo:Int) (l:List Z2):List Z2:=l.flatMap fun r=>Z1v r.f0 (Z1z k lo r.f1)
def Z70 (k lo:Int) (l:List Z2):Z3:=⟨⟨lo,lo+wide k,k⟩,Z2v k lo l⟩
theorem Z48 (k lo:Int) (l:List Z2) (key:ByteArray) (ss:List Zf):Z2v k lo (l++[⟨key,ss⟩])=Z2v k lo l++Z1v key (Z1z k lo ss):=by simp[Z2v]
theorem atLow_nil (k lo:Int) (l:List Z2) (key:ByteArray):Z2v k lo (l++[⟨key,[]⟩])=Z2v k lo l:=by rw[Z48];simp[Z1z,Z1v]
theorem Z36 {k lo:Int} {l:List Z2} {q:Z2}:q∈Z2v k lo l↔∃ r∈l,q.f0=r.f0∧q.f1=Z1z k lo r.f1∧q.f1≠[]:=by
 unfold Z2v;rw[List.mem_flatMap];constructor
 ·rintro⟨r,hr,h⟩
  unfold Z1v at h;by_cases c:(Z1z k lo r.f1).isEmpty=true
  ·rw[if_pos c] at h;simp at h
  ·rw[if_neg c] at h
   obtain rfl:=List.mem_singleton.1 h;exact⟨r,hr,rfl,rfl,by simpa using c⟩
 ·rintro⟨r,hr,h1,h2,h3⟩
  refine⟨r,hr,?_⟩;unfold Z1v;rw[if_neg (by rw[← h2];simpa using h3),← h1,← h2];exact List.mem_singleton.2 rfl
theorem Z9m (k lo:Int):∀ l:List Z2,(Z2v k lo l).length≤l.length
 | []=>by simp[Z2v]
 | r::l=>by
  have:=Z9m k lo l;have e:Z2v k lo (r::l)=Z1v r.f0 (Z1z k lo r.f1)++Z2v k lo l:=by simp[Z2v]
  rw[e,List.length_append,List.length_cons];have:(Z1v r.f0 (Z1z k lo r.f1)).length≤1:=by unfold Z1v;split<;>simp
  omega
theorem add_new {mt:Z1x} {rows:List Z2} {key:ByteArray} {s:Zf} (h:∀ r∈rows,r.f0≠key) (hl:rows.length≤1000000):Za.add ⟨mt,rows⟩ key s=some ⟨mt,rows++[⟨key,[s]⟩]⟩:=by
 unfold Za.add;rcases List.eq_nil_or_concat rows with rfl | ⟨Q,q,rfl⟩
 ·rfl
 ·rw[List.concat_eq_append] at *
  have e:(Q++[q]).getLast? = some q:=by simp
  simp only[e];have hq:¬ (q.f0.toList==key.toList)=true:=by
   rw[eqB];have:=h q (by simp);simpa using this
  rw[chkB (by simp only[List.length_append,List.length_cons,List.length_nil] at *;omega),if_neg hq]
theorem add_old {mt:Z1x} {Q:List Z2} {key:ByteArray} {ss:List Zf} {s:Zf} (hl:Q.length≤1000000) (hs:ss.length≤1000000):Za.add ⟨mt,Q++[⟨key,ss⟩]⟩ key s=some ⟨mt,Q++[⟨key,ss++[s]⟩]⟩:=by
 unfold Za.add;have e:(Q++[(⟨key,ss⟩:Z2)]).getLast? = some ⟨key,ss⟩:=by simp
 simp only[e];rw[chkB (by simp only[List.length_append,List.length_cons,List.length_nil] at *;omega),if_pos (by simp),chkB (by omega),List.dropLast_concat]
structure MRep (k:Int) (L:List Z2) (m:List (Int×Z3)):Prop where
 nodup:(m.map (·.1)).Nodup
 get:∀ lo,mget m lo=if(Z2v k lo L).isEmpty=true then none else some (Z70 k lo L)
theorem MRep.congr {k:Int} {L L':List Z2} {m:List (Int×Z3)} (h:MRep k L m) (e:∀ lo,Z2v k lo L=Z2v k lo L'):MRep k L' m :=
 ⟨h.nodup,fun lo=>by rw[h.get lo];unfold Z70;rw[e lo]⟩
theorem new_eq {k lo:Int} (h0:0≤k) (h4:k≤4) (hl:0≤lo) (hh:lo<4611686018427387904):Za.new k lo=⟨⟨lo,lo+wide k,k⟩,[]⟩:=by
 have hw:=Z6f k;have e:Za.new k lo=⟨⟨lo,i64.wrap (lo+Za.wd k),(if(if(4:Int)<k then(4:Int) else k)>(0:Int) then(if(4:Int)<k then(4:Int) else k) else(0:Int))⟩,[]⟩:=rfl;rw[e,wd_eq h0 h4,Z07 (by omega) (by omega)];have:(if(if(4:Int)<k then(4:Int) else k)>(0:Int) then(if(4:Int)<k then(4:Int) else k) else(0:Int))=k:=by
  split<;>split<;>omega
 rw[this]
theorem lowT_bounds {k t:Int} (ht:0≤t):0≤lowT k t∧lowT k t≤t∧t<lowT k t+wide k∧lowT k t % wide k=0:=by
 have hw:=Z6f k;have h1:=Int.emod_nonneg t (b:=wide k) (by omega);have h2:=Int.emod_lt_of_pos t (b:=wide k) hw.1;have h3:=Int.mul_ediv_add_emod t (wide k);have h4:0≤wide k*(t / wide k):=Int.mul_nonneg (by omega) (Int.ediv_nonneg ht (by omega));unfold lowT;refine⟨by omega,by omega,by omega,?_⟩;rw[show t-t % wide k=wide k*(t / wide k) by omega];exact Int.mul_emod_right _ _
theorem lowT_mono {k a b:Int} (h:lowT k a<lowT k b) (ha:0≤a) (hb:0≤b):a<b:=by
 have hw:=Z6f k;by_cases c:a<b
 ·exact c
 ·exfalso
  have h1:=Int.ediv_le_ediv (a:=b) (b:=a) hw.1 (by omega);have e1:lowT k a=wide k*(a / wide k):=by have:=Int.mul_ediv_add_emod a (wide k);unfold lowT;omega
  have e2:lowT k b=wide k*(b / wide k):=by have:=Int.mul_ediv_add_emod b (wide k);unfold lowT;omega
  have h2:wide k*(b / wide k)≤wide k*(a / wide k):=Int.mul_le_mul_of_nonneg_left h1 (by omega);omega
theorem mk_step {k:Int} (h0:0≤k) (h4:k≤4) {L:List Z2} {key:ByteArray} {pre:List Zf} {s:Zf} {m:List (Int×Z3)} (hm:MRep k (L++[⟨key,pre⟩]) m) (hk:∀ r∈L,r.f0≠key) (hL:L.length≤100000) (hp:pre.length≤1000000) (ht:0≤s.f0∧s.f0<4611686018427387904):∃ bk,Za.add ((mget m (lowT k s.f0)).getD (Za.new k (lowT k s.f0))) key s=some bk∧MRep k (L++[⟨key,pre++[s]⟩]) (mput m (lowT k s.f0) bk):=by
 generalize hlo:lowT k s.f0=lo;have hb:=lowT_bounds (k:=k) ht.1;rw[hlo] at hb;have hself:Z1z k lo (pre++[s])=Z1z k lo pre++[s]:=by simp[Z1z,hlo]
 have hoth:∀ lo',lo'≠lo→Z1z k lo' (pre++[s])=Z1z k lo' pre:=fun lo' hne=>by
  unfold Z1z;rw[List.filter_append];have:decide (lowT k s.f0=lo')=false:=decide_eq_false (fun h=>hne (h.symm.trans hlo));simp[this]
 have hbk:(mget m lo).getD (Za.new k lo)=Z70 k lo (L++[⟨key,pre⟩]):=by
  rw[hm.get lo];by_cases c:(Z2v k lo (L++[⟨key,pre⟩])).isEmpty=true
  ·rw[if_pos c,Option.getD_none,new_eq h0 h4 hb.1 (by omega)]
   unfold Z70;rw[List.isEmpty_iff.1 c]
  ·rw[if_neg c];rfl
 have hLk:∀ r∈Z2v k lo L,r.f0≠key:=fun q hq=>by
  obtain⟨r,hr,h1,_⟩:=Z36.1 hq;rw[h1];exact hk r hr
 have hll:=Z9m k lo L;have hadd:Za.add (Z70 k lo (L++[⟨key,pre⟩])) key s=some (Z70 k lo (L++[⟨key,pre++[s]⟩])):=by
  unfold Z70;rw[Z48,Z48,hself];by_cases c:(Z1z k lo pre).isEmpty=true
  ·have e:=List.isEmpty_iff.1 c
   rw[e,show Z1v key []=[] from rfl,List.append_nil,add_new hLk (by omega)];rfl
  ·have e1:Z1v    key (Z1z   k lo pre)=[⟨key,Z1z   k lo pre⟩]:=if_neg c
   have e2:Z1v key (Z1z k lo pre++[s])=[⟨key,Z1z k lo pre++[s]⟩]:=if_neg (by simp);have e3:(Z1z k lo pre).length≤pre.length:=List.length_filter_le _ _;rw[e1,e2,add_old (by omega) (by omega)]
 refine⟨_,by rw[hbk];exact hadd,Z7j _ _ _ hm.nodup,fun lo' => ?_⟩;rw[mgetp];by_cases c:lo=lo'
 ·subst c
  rw[if_pos rfl,if_neg];rw[Z48,hself];have e2:Z1v key (Z1z k lo pre++[s])=[⟨key,Z1z k lo pre++[s]⟩]:=if_neg (by simp);rw[e2];simp
 ·rw[if_neg c,hm.get lo']
  have e:Z2v k lo' (L++[⟨key,pre++[s]⟩])=Z2v k lo' (L++[⟨key,pre⟩]):=by rw[Z48,Z48,hoth lo' (fun h=>c h.symm)]
  unfold Z70;rw[e]
structure MkIn (l:List Z2):Prop where
 len:l.length≤1000
 smp:∀ r∈l,r.f1.length≤1000000∧∀ s∈r.f1,0≤s.f0∧s.f0<4611686018427387904
 keys:l.Pairwise fun a b=>a.f0≠b.f0
theorem mk_l1 {k:Int} (h0:0≤k) (h4:k≤4) {L:List Z2} {b:Z2} (hk:∀ r∈L,r.f0≠b.f0) (hL:L.length≤100000) (hp:b.f1.length≤1000000) (ht:∀ s∈b.f1,0≤s.f0∧s.f0<4611686018427387904) :
  ∀ (suf pre:List Zf) (m:List (Int×Z3)) (i:Int),b.f1=pre++suf→i=(pre.length:Int)→MRep k (L++[⟨b.f0,pre⟩]) m→∃ y,Za.l1 k b m i=some y∧MRep k (L++[⟨b.f0,b.f1⟩]) y:=by
 intro suf
 induction suf with
 | nil =>
  intro pre m i h1 hi hm;rw[List.append_nil] at h1;rw[Za.l1,if_neg (by rw[h1];simp[hi])];exact⟨m,rfl,by rw[h1];exact hm⟩
 | cons s suf ih =>
  intro pre m i h1 hi hm;have hlen:b.f1.length=pre.length+(suf.length+1):=by rw[h1];simp
  have hs:=ht s (by rw[h1];simp);obtain⟨bk,e1,e2⟩:=mk_step h0 h4 hm hk hL (by omega) hs;have elo:Za.lo k s.f0=lowT k s.f0:=lo_eq h0 h4 hs.1 (by omega);rw[Za.l1,if_pos (by simp;omega),Z1i h1 hi,sb,low_ok h0 h4,sb,width_ok h0 h4,sb,elo,e1,sb,Z07 (by omega) (by omega)];exact ih (pre++[s]) _ (i+1) (by simp[h1]) (by simp;omega) e2
theorem mk_l0 {k:Int} (h0:0≤k) (h4:k≤4) {l:List Z2} (hin:MkIn l):∀ (suf pre:List Z2) (m:List (Int×Z3)) (i:Int),l=pre++suf→i=(pre.length:Int)→MRep k pre m→∃ y,Za.l0 k l m i=some y∧MRep k l y:=by
 intro suf
 induction suf with
 | nil =>
  intro pre m i h1 hi hm;rw[List.append_nil] at h1;rw[Za.l0,if_neg (by rw[h1];simp[hi])];exact⟨m,rfl,by rw[h1];exact hm⟩
 | cons r suf ih =>
  intro pre m i h1 hi hm;have hlen:l.length=pre.length+(suf.length+1):=by rw[h1];simp
  have hl:=hin.len;have hr:=hin.smp r (by rw[h1];simp);have hk:∀ q∈pre,q.f0≠r.f0:=fun q hq=>by
   have:=hin.keys;rw[h1] at this;exact(List.pairwise_append.1 this).2.2 q hq r (by simp)
  obtain⟨y,e1,e2⟩:=mk_l1 h0 h4 (L:=pre) (b:=r) hk (by omega) hr.1 hr.2 r.f1 [] m 0 rfl rfl (hm.congr (fun lo=>(atLow_nil k lo pre r.f0).symm));rw[Za.l0,if_pos (by simp;omega),Z1i h1 hi,sb,e1,sb,Z07 (by omega) (by omega)];exact ih (pre++[r]) y (i+1) (by simp[h1]) (by simp;omega) e2
theorem bsort_inst:Zq.f=GS.SortF.f Z08.f:=by kernel_rfl
def lowLt (a b:Z3):Bool:=decide (a.f0.f0<b.f0.f0)
theorem lowLt_swo:SWO lowLt:=⟨fun a b h=>by simp[lowLt] at *;omega,fun a b c h1 h2=>by simp[lowLt] at *;omega⟩
theorem compare64 (a b:Int):Z0o.f a b=some (if a<b then -1 else if a>b then 1 else 0):=by
 unfold Z0o.f;have hn:∀ x,Z1h.f x=some ():=fun x=>rfl
 simp only[hn,sb];by_cases c1:a<b
 ·rw[if_pos c1];simp[c1]
 ·rw[if_neg c1]
  by_cases c2:a>b
  ·rw[if_pos c2];simp[c1,c2]
  ·rw[if_neg c2];simp[c1,c2]
theorem lowCmp:Cmp Z08.f lowLt:=fun a b=>by
 unfold Z08.f;rw[compare64,sb];by_cases c1:a.f0.f0<b.f0.f0
 ·exact⟨-1,by rw[if_pos c1],by simp[lowLt,c1]⟩
 ·rw[if_neg c1]
  by_cases c2:a.f0.f0>b.f0.f0
  ·exact⟨1,by rw[if_pos c2],by simp[lowLt,c1]⟩
  ·exact⟨0,by rw[if_neg c2],by simp[lowLt,c1]⟩
structure Made (k:Int) (l:List Z2) (B:List Z3):Prop where
 mem:∀ b,b∈B↔∃ lo,Z2v k lo l≠[]∧b=Z70 k lo l
 up:B.Pairwise fun a b=>a.f0.f0<b.f0.f0
theorem Made.uniq {k:Int} {l:List Z2} {B C:List Z3} (hB:Made k l B) (hC:Made k l C):B=C :=
 rise_uniq (fun a h=>by omega) (fun a b h=>by omega) hB.up hC.up (fun x=>by rw[hB.mem,hC.mem])
theorem made_of {k:Int} {l:List Z2} {y:List (Int×Z3)} (hy:MRep k l y) {p:List (Int×Z3)} (hp:p.Perm y) {r:List Z3} (h1:r.Perm (p.map (·.2))) (h2:r.Pairwise fun a b=>lowLt b a=false):Made k l r:=by
 have hmem:∀ b,b∈r↔∃ lo,Z2v k lo l≠[]∧b=Z70 k lo l:=fun b=>by
  rw[h1.mem_iff,(hp.map _).mem_iff,List.mem_map];constructor
  ·rintro⟨⟨lo,x⟩,hx,rfl⟩
   have h3:=(Z5q y hy.nodup lo x).2 hx;rw[hy.get lo] at h3;by_cases c:(Z2v k lo l).isEmpty=true
   ·rw[if_pos c] at h3;cases h3
   ·rw[if_neg c] at h3
    exact⟨lo,by simpa using c,(Option.some.inj h3).symm⟩
  ·rintro⟨lo,h3,rfl⟩
   refine⟨(lo,Z70 k lo l),(Z5q y hy.nodup lo _).1 ?_,rfl⟩;rw[hy.get lo,if_neg (by simpa using h3)]
 refine⟨hmem,?_⟩;have hnd:(r.map fun b=>b.f0.f0).Nodup:=by
  have e:(y.map (·.2)).map (fun b=>b.f0.f0)=y.map (·.1):=by
   rw[List.map_map];refine List.map_congr_left (fun q hq => ?_);have h3:=(Z5q y hy.nodup q.1 q.2).2 hq;rw[hy.get q.1] at h3;by_cases c:(Z2v k q.1 l).isEmpty=true
   ·rw[if_pos c] at h3;cases h3
   ·rw[if_neg c] at h3
    show q.2.f0.f0=q.1;rw[← Option.some.inj h3];rfl
  have h5:(r.map fun b=>b.f0.f0).Perm (y.map (·.1)):=by rw[← e];exact(h1.trans (hp.map _)).map _
  exact h5.nodup_iff.2 hy.nodup
 rw[List.Nodup,List.pairwise_map] at hnd;refine(h2.and hnd).imp (fun {a b} h => ?_);obtain⟨h3,h4⟩:=h;simp[lowLt] at h3;have:a.f0.f0≠b.f0.f0:=h4;omega
theorem make_spec {k:Int} (h0:0≤k) (h4:k≤4) {l:List Z2} (hin:MkIn l) (hs:(l.map fun r=>r.f1.length).sum≤100000):∃ B,Za.f k l=some B∧Made k l B:=by
 obtain⟨y,e1,hy⟩:=mk_l0 h0 h4 hin l [] [] 0 rfl rfl ⟨by simp,fun lo=>rfl⟩;have hcnt:y.length≤(l.flatMap fun r=>r.f1.map fun s=>lowT k s.f0).length:=by
  have hsub:∀ lo∈y.map (·.1),lo∈l.flatMap fun r=>r.f1.map fun s=>lowT k s.f0:=fun lo hlo=>by
   obtain⟨⟨lo',b⟩,hq,rfl⟩:=List.mem_map.1 hlo;have h3:=(Z5q y hy.nodup lo' b).2 hq;rw[hy.get lo'] at h3;by_cases c:(Z2v k lo' l).isEmpty=true
   ·rw[if_pos c] at h3;cases h3
   ·obtain⟨x,hx⟩:=List.exists_mem_of_ne_nil _ (show Z2v   k lo' l≠[] by simpa using c)
    obtain⟨r,hr,g1,g2,g3⟩:=Z36.1 hx;obtain⟨s,hs⟩:=List.exists_mem_of_ne_nil _ g3;rw[g2] at hs;have hs2:=List.mem_filter.1 hs;exact List.mem_flatMap.2 ⟨r,hr,List.mem_map.2 ⟨s,hs2.1,by simpa using hs2.2⟩⟩
  have:=Z8d _ _ hy.nodup hsub;rw[List.length_map] at this;exact this
 have hcnt2:y.length≤100000:=by
  have e:(l.flatMap fun r=>r.f1.map fun s=>lowT k s.f0).length=(l.map fun r=>r.f1.length).sum:=by simp[List.length_flatMap]
  omega
 obtain⟨B,b1,b2,b3⟩:=GS.sortF lowCmp lowLt_swo (y.map (·.2)) (by simp;omega);have hB:=made_of hy (.refl _) b2 b3;refine⟨B,?_,hB⟩;unfold Za.f;rw[e1,sb,chkB (by omega)];have hr:rchk (fun(p:List (Int×Z3)) (_:Unit)=>Zq.f (p.map (·.2))) y ()=some B:=rchk_eq fun p hp=>by
  obtain⟨C,c1,c2,c3⟩:=GS.sortF lowCmp lowLt_swo (p.map (·.2)) (by have:=hp.length_eq;simp;omega);rw[bsort_inst,c1,(made_of hy hp c2 c3).uniq hB]
 rw[hr,sb]
abbrev RightR (r:Z0i):Prop:=0≤r.f0∧r.f0≤r.f1∧r.f1≤1099511627776
def HasL (l:List Z0i) (t:Int):Prop:=∃ r∈l,RightR r∧r.f0≤t∧t≤r.f1
structure Apart (l:List Z0i):Prop where
 right:∀ r∈l,RightR r
 gapT:l.Pairwise (fun a b=>a.f1+1<b.f0)
theorem hasL_nil (t:Int):¬ HasL [] t:=by rintro⟨r,h,_⟩;simp at h
theorem Apart.nil:Apart []:=⟨by simp,List.Pairwise.nil⟩
theorem compare_i64 (a b:Int):Z0o.f a b=some (if a<b then -1 else if a>b then 1 else 0):=by
 unfold Z0o.f Z1h.f;by_cases h1:a<b
 ·simp[h1]
 ·by_cases h2:b<a
  ·simp[h1,h2]
  ·simp[h1,h2]
structure OfI (pre out:List Z0i):Prop where
 apart:Apart out
 has:∀ t,HasL out t↔HasL pre t
 seen:∀ o∈out,∃ p∈pre,p.f0=o.f0
 len:out.length≤pre.length
theorem has_eq (l:List Z0i) (hl:l.length<1000000000) (h:Apart l) (t:Int):∃ b,Z2h.f ⟨l⟩ t=some b∧(b=true↔HasL l t):=by
 unfold Z2h.f;have hi:Zv.f=binF.f Z1f.f:=by kernel_rfl
 have hc:∀ x,Z1f.f x t=some (if x.f0<t then -1 else if x.f0>t then 1 else 0):=fun x=>by
  unfold Z1f.f;rw[compare_i64,sb]
 have hlt:∀ i j (x y:Z0i),i<j→l[i]? = some x→l[j]? = some y→x.f1+1<y.f0:=fun i j x y hij hx hy=>by
  obtain⟨hi',ex⟩:=List.getElem?_eq_some_iff.1 hx;obtain⟨hj',ey⟩:=List.getElem?_eq_some_iff.1 hy;have:=List.pairwise_iff_getElem.1 h.gapT i j hi' hj' hij;rw[ex,ey] at this;exact this
 have hR:∀ i (x:Z0i),l[i]? = some x→RightR x:=fun i x hx=>h.right x (List.mem_of_getElem? hx)
 obtain⟨k,fb,hk,hfb,e⟩:=binF_eq hc l hl (fun i j x y hij hx hy hneg=>by
  have hyt:y.f0<t:=by
   by_cases q:y.f0<t
   ·exact q
   ·rw[if_neg q] at hneg;split at hneg<;>omega
  have:x.f0<t:=by
   by_cases q:i=j
   ·subst q;rw[hx] at hy;simp at hy;subst hy;exact hyt
   ·have:=hlt i j x y (by omega) hx hy
    have:=hR i x hx;omega
  rw[if_pos this];omega)
 have hlo:∀ m x,m<k→l[m]? = some x→x.f0<t:=fun m x hm hx=>by
  have:=hk.lo m x hm hx;by_cases q:x.f0<t
  ·exact q
  ·rw[if_neg q] at this;split at this<;>omega
 have hhi:∀ m x,k≤m→l[m]? = some x→t≤x.f0:=fun m x hm hx=>by
  have:=hk.hi m x hm hx;by_cases q:x.f0<t
  ·rw[if_pos q] at this;omega
  ·omega
 rw[hi,e,sb];have main:∀ (m:Nat) (x:Z0i),l[m]? = some x→RightR x∧x.f0≤t∧t≤x.f1→(∃ y,l[k]? = some y∧y.f0=t)∨(0<k∧∃ y,l[k-1]? = some y∧t≤y.f1):=fun m x hx q=>by
  have hml:=(List.getElem?_eq_some_iff.1 hx).1;by_cases hm:m<k
  ·right
   refine⟨by omega,?_⟩;by_cases hm1:m=k-1
   ·exact⟨x,hm1 ▸ hx,q.2.2⟩
   ·have hk1:k-1<l.length:=by have:=hk.le;omega
    have a:=hlo (k-1) _ (by omega) (List.getElem?_eq_getElem hk1);have b:=hlt m (k-1) x _ (by omega) hx (List.getElem?_eq_getElem hk1);omega
  ·left
   have hkl:k<l.length:=by omega
   refine⟨l[k],List.getElem?_eq_getElem hkl,?_⟩;have a:=hhi k _ (by omega) (List.getElem?_eq_getElem hkl);by_cases hmk:m=k
   ·subst hmk;rw[List.getElem?_eq_getElem hkl] at hx;simp at hx;rw[hx] at a ⊢;omega
   ·have b:=hlt k m _ x (by omega) (List.getElem?_eq_getElem hkl) hx
    have c:=hR k _ (List.getElem?_eq_getElem hkl);omega
 have main':HasL l t→(∃ y,l[k]? = some y∧y.f0=t)∨(0<k∧∃ y,l[k-1]? = some y∧t≤y.f1):=fun⟨r,hr,q⟩=>by
  obtain⟨m,hm⟩:=List.getElem?_of_mem hr;exact main m r hm q
 have hz:∀ y:Z0i,(if y.f0<t then(-1:Int) else if y.f0>t then 1 else 0)=0↔y.f0=t:=fun y=>by
  by_cases q:y.f0<t
  ·rw[if_pos q];omega
  ·by_cases q2:y.f0>t
   ·rw[if_neg q,if_pos q2];omega
   ·rw[if_neg q,if_neg q2];omega
 simp only[hz] at hfb;dsimp only;by_cases hf:∃ y,l[k]? = some y∧y.f0=t
 ·rw[if_pos (hfb.2 hf),sb]
  obtain⟨y,hy,hyt⟩:=hf;refine⟨true,rfl,by simp;exact⟨y,List.mem_of_getElem? hy,hR k y hy,by omega,by have:=(hR k y hy).2.1;omega⟩⟩
 ·rw[if_neg (fun q=>hf (hfb.1 q))]
  by_cases hk0:0<k
  ·have hk1:k-1<l.length:=by have:=hk.le;omega
   have hy:=List.getElem?_eq_getElem hk1;rw[if_pos (by simpa using hk0),Z07 (by have:=hk.le;omega) (by have:=hk.le;omega),at_nat (k:=k-1) (by omega) hy,sb,sb];refine⟨_,rfl,?_⟩;simp only[decide_eq_true_eq];constructor
   ·intro q
    exact⟨_,List.mem_of_getElem? hy,hR _ _ hy,by have:=hlo (k-1) _ (by omega) hy;omega,q⟩
   ·intro q
    rcases main' q with q | ⟨_,y,hy',q⟩
    ·exact absurd q hf
    ·rw[hy] at hy';simp at hy';rw[hy'];exact q
  ·rw[if_neg (by simpa using hk0),sb]
   refine ⟨false, rfl, by simp; intro q; rcases main' q with q | q
                          ·exact hf q
                          ·omega⟩
open Classical in
noncomputable def hasB (l:List Z0i) (t:Int):Bool:=decide (HasL l t)
theorem hasB_iff (l:List Z0i) (t:Int):hasB l t=true↔HasL l t:=by simp[hasB]
theorem hasB_eq (l:List Z0i) (hl:l.length<1000000000) (h:Apart l) (t:Int):Z2h.f ⟨l⟩ t=some (hasB l t):=by
 obtain⟨b,e,hb⟩:=has_eq l hl h t;rw[e,show b=hasB l t from Bool.eq_iff_iff.2 (hb.trans (hasB_iff l t).symm)]
theorem hasB_nil (t:Int):hasB [] t=false:=by
 cases e:hasB [] t with
 | false=>rfl
 | true=>exact absurd ((hasB_iff _ _).1 e) (hasL_nil t)
noncomputable abbrev kept (x:List Z0i) (l:List Zf):List Zf:=l.filter (fun s => !hasB x s.f0)
theorem keep_inst (l:List Zf) (c:List Z0i):Zw.f l c=deleteF.f (fun x=>Z13.f x c) (⟨0,(⟨0,0,0,0,0,0,[],[]⟩:Z1c)⟩:Zf) l:=by kernel_rfl
theorem t_keep_eq (x:List Z0i) (hx:x.length<1000000000) (h:Apart x) (l:List Zf) (hl:l.length<1000000000):Z16.f ⟨x⟩ l=some (kept x l):=by
 unfold Z16.f Z17.f;rw[chkB (by simp;omega),sb,keep_inst,deleteF_eq (p:=fun s=>hasB x s.f0) (fun s=>by unfold Z13.f;rw[hasB_eq x hx h,sb]) _ _ (by omega),sb]
def tLtS (a b:Zf):Bool:=decide (a.f0<b.f0)
theorem tLtS_swo:SWO tLtS:=⟨fun a b h=>by simp[tLtS] at *;omega,fun a b c h1 h2=>by simp[tLtS] at *;omega⟩
theorem tCmpS:Cmp Z18.f tLtS:=fun a b=>by
 unfold Z18.f;rw[compare64,sb];by_cases c1:a.f0<b.f0
 ·exact⟨-1,by rw[if_pos c1],by simp[tLtS,c1]⟩
 ·rw[if_neg c1]
  by_cases c2:a.f0>b.f0
  ·exact⟨1,by rw[if_pos c2],by simp[tLtS,c1]⟩
  ·exact⟨0,by rw[if_neg c2],by simp[tLtS,c1]⟩
theorem jst_inst:Z0a.f=GS.SortStable.f Z18.f:=by kernel_rfl
theorem stable_id {l:List Zf} (h:l.Pairwise fun a b=>a.f0<b.f0) (hl:l.length≤1000000):Z0a.f l=some l:=by
 rw[jst_inst,GS.sorts tCmpS tLtS_swo l (by omega),S_of_sorted tLtS_swo l (h.imp (fun {a b} h=>by simp[tLtS];omega))]
def rowLt (a b:Z2):Bool:=bl a.f0 b.f0
theorem rowLt_swo:SWO rowLt:=⟨fun a b h=>bl_asymm h,fun a b c h1 h2=>bl_ntrans h1 h2⟩
theorem rowCmp:Cmp Z09.f rowLt:=fun a b=>by
 refine⟨_,by unfold Z09.f;rw[cmp_str,sb],?_⟩;simp only[rowLt];cases h1:bl a.f0 b.f0<;>cases h2:bl b.f0 a.f0<;>simp
theorem rsort_inst:Z05.f=GS.SortF.f Z09.f:=by kernel_rfl
def Z3y (kf:ByteArray→Zf→Bool) (key:ByteArray) (R:List Z2):List Zf:=R.flatMap fun r=>if r.f0=key then r.f1.filter (kf key) else []
structure JRep (kf:ByteArray→Zf→Bool) (R:List Z2) (m:List (ByteArray×List Zf)):Prop where
 nodup:(m.map (·.1)).Nodup
 get:∀ key,key∈R.map (fun r:Z2=>r.f0)→mget m key=some (Z3y kf key R)
 non:∀ key,key ∉ R.map (fun r:Z2=>r.f0)→mget m key=none
theorem Za6 {kf:ByteArray→Zf→Bool} {key:ByteArray}:∀ {R:List Z2},key ∉ R.map (fun r:Z2=>r.f0)→Z3y kf key R=[]
 | [],_=>rfl
 | r::R,h=>by
  simp only[List.map_cons,List.mem_cons,not_or] at h;have:Z3y kf key (r::R)=(if r.f0=key then r.f1.filter (kf key) else [])++Z3y kf key R:=by simp[Z3y]
  rw[this,if_neg (fun e=>h.1 e.symm),Za6 h.2];rfl
theorem Za5 {kf:ByteArray→Zf→Bool} {key:ByteArray} {R:List Z2} {r:Z2}:Z3y kf key (R++[r])=Z3y kf key R++(if r.f0=key then r.f1.filter (kf key) else []):=by simp[Z3y]
theorem Z9b {kf:ByteArray→Zf→Bool} {key:ByteArray}:∀ {R:List Z2},(Z3y kf key R).length≤(R.map fun r=>r.f1.length).sum
 | []=>by simp[Z3y]
 | r::R=>by
  have:Z3y kf key (r::R)=(if r.f0=key then r.f1.filter (kf key) else [])++Z3y kf key R:=by simp[Z3y]
  rw[this,List.length_append,List.map_cons,List.sum_cons];have h1:=@Z9b kf key R;have h2:(if r.f0=key then r.f1.filter (kf key) else []).length≤r.f1.length:=by
   split
   ·exact List.length_filter_le _ _
   ·simp
  omega
theorem JRep.step {kf:ByteArray→Zf→Bool} {R:List Z2} {m:List (ByteArray×List Zf)} (h:JRep kf R m) (r:Z2) :
  (mget m r.f0).getD []=Z3y kf r.f0 R∧JRep kf (R++[r]) (mput m r.f0 (Z3y kf r.f0 R++r.f1.filter (kf r.f0))):=by
 have hin:∀ key,r.f0≠key→(key∈(R++[r]).map (fun r:Z2=>r.f0)↔key∈R.map (fun r:Z2=>r.f0)):=fun key c=>by
  rw[List.map_append,List.mem_append];simp only[List.map_cons,List.map_nil,List.mem_singleton];exact⟨fun h=>h.resolve_right (fun e=>c e.symm),.inl⟩
 refine⟨?_,Z7j _ _ _ h.nodup,fun key hk => ?_,fun key hk => ?_⟩
 ·by_cases c:r.f0∈R.map (fun r:Z2         => r.f0)
  ·rw[h.get _ c];rfl
  ·rw[h.non _ c,Za6 c];rfl
 ·rw[mgetp]
  by_cases c:r.f0=key
  ·subst c
   rw[if_pos rfl,Za5,if_pos rfl]
  ·rw[if_neg c,h.get _ ((hin key c).1 hk),Za5,if_neg c,List.append_nil]
 ·rw[mgetp]
  by_cases c:r.f0=key
  ·exact absurd (by rw[← c];simp) hk
  ·rw[if_neg c]
   exact h.non _ (fun e=>hk ((hin key c).2 e))
theorem j_l1 (kf:ByteArray→Zf→Bool) {R:List Z2} {b:Z3} (hb:b.f1.length≤1000000) (hk:∀ r∈b.f1,Z16.f (⟨(⟨[]⟩:Z0v).f0⟩:Z0v) r.f1=some (r.f1.filter (kf r.f0))) (hs:((R++b.f1).map fun r=>r.f1.length).sum≤100000) :
  ∀ (suf pre:List Z2) (m:List (ByteArray×List Zf)) (i:Int),b.f1=pre++suf→i=(pre.length:Int)→JRep kf (R++pre) m→∃ y,Zb.l1 b m i=some y∧JRep kf (R++b.f1) y:=by
 intro suf
 induction suf with
 | nil =>
  intro pre m i h1 hi hm;rw[List.append_nil] at h1;rw[Zb.l1,if_neg (by rw[h1];simp[hi])];exact⟨m,rfl,by rw[h1];exact hm⟩
 | cons r suf ih =>
  intro pre m i h1 hi hm;have hlen:b.f1.length=pre.length+(suf.length+1):=by rw[h1];simp
  obtain⟨g1,g2⟩:=hm.step r;have hsum:=hs;rw[h1,← List.append_assoc,List.map_append,List.sum_append,List.map_cons,List.sum_cons] at hsum;have h2:=@Z9b kf r.f0 (R++pre);have h3:(r.f1.filter (kf r.f0)).length≤r.f1.length:=List.length_filter_le _ _;rw[Zb.l1,if_pos (by simp;omega),Z1i h1 hi,sb,hk r (by rw[h1];simp),sb,g1,chkB (by omega),Z07 (by omega) (by omega)];exact ih (pre++[r]) _ (i+1) (by simp[h1]) (by simp;omega) (by rw[← List.append_assoc];exact g2)
theorem j_l0 (kf:ByteArray→Zf→Bool) {B:List Z3} (hB:B.length≤1000000) (hb:∀ b∈B,b.f1.length≤1000000) (hk:∀ b∈B,∀ r∈b.f1,Z16.f (⟨(⟨[]⟩:Z0v).f0⟩:Z0v) r.f1=some (r.f1.filter (kf r.f0))) (hs:((B.flatMap (·.f1)).map fun r=>r.f1.length).sum≤100000) :
  ∀ (suf pre:List Z3) (m:List (ByteArray×List Zf)) (i:Int),B=pre++suf→i=(pre.length:Int)→JRep kf (pre.flatMap (·.f1)) m→∃ y,Zb.l0 B m i=some y∧JRep kf (B.flatMap (·.f1)) y:=by
 intro suf
 induction suf with
 | nil =>
  intro pre m i h1 hi hm;rw[List.append_nil] at h1;rw[Zb.l0,if_neg (by rw[h1];simp[hi])];exact⟨m,rfl,by rw[h1];exact hm⟩
 | cons b suf ih =>
  intro pre m i h1 hi hm;have hlen:B.length=pre.length+(suf.length+1):=by rw[h1];simp
  have e0:B.flatMap (·.f1)=(pre.flatMap (·.f1)++b.f1)++suf.flatMap (·.f1):=by rw[h1];simp
  have hs2:((pre.flatMap (·.f1)++b.f1).map fun r=>r.f1.length).sum≤100000:=by
   rw[e0,List.map_append,List.sum_append] at hs;omega
  obtain⟨y,e1,e2⟩:=j_l1 kf (R:=pre.flatMap (·.f1)) (b:=b) (hb b (by rw[h1];simp)) (hk b (by rw[h1];simp)) hs2 b.f1 [] m 0 rfl rfl (by rw[List.append_nil];exact hm);rw[Zb.l0,if_pos (by simp;omega),Z1i h1 hi,sb,e1,sb,Z07 (by omega) (by omega)];exact ih (pre++[b]) y (i+1) (by simp[h1]) (by simp;omega) (by rw[List.flatMap_append];simpa using e2)
theorem j_en:∀ (p:List (ByteArray×List Zf)) (acc:List Z2),(∀ q∈p,q.2.Pairwise (fun a b=>a.f0<b.f0)∧q.2.length≤1000000)→acc.length+p.length≤1000000→Zb.en p acc=some (acc++p.flatMap fun q=>Z1v q.1 q.2)
 | [],acc,_,_=>by rw[Zb.en];simp
 | (k,s)::p,acc,h,hl=>by
  obtain⟨h1,h2⟩:=h (k,s) (by simp);have ih:=fun acc hl=>j_en p acc (fun q hq=>h q (by simp[hq])) hl;simp only[List.length_cons] at hl;rw[Zb.en];by_cases c:s=[]
  ·subst c
   rw[if_neg (by simp),ih acc (by omega)];rfl
  ·have hpos:=List.length_pos_iff.2 c
   rw[if_pos (by simpa using hpos),stable_id h1 h2,sb,chkB (by omega),ih _ (by simp;omega)];have e:Z1v k s=[⟨k,s⟩]:=if_neg (by simpa using c);rw[List.flatMap_cons,e,List.append_assoc]
theorem join_spec (kf:ByteArray→Zf→Bool) {B:List Z3} {E:List Z2} (hB:B.length≤1000000) (hb:∀ b∈B,b.f1.length≤1000000) (hk:∀ b∈B,∀ r∈b.f1,Z16.f (⟨(⟨[]⟩:Z0v).f0⟩:Z0v) r.f1=some (r.f1.filter (kf r.f0))) (hs:((B.flatMap (·.f1)).map fun r=>r.f1.length).sum≤100000) (hn:(B.flatMap (·.f1)).length≤1000000) (hT:∀ key,(Z3y kf key (B.flatMap (·.f1))).Pairwise fun a b=>a.f0<b.f0) (hE:E.Pairwise fun a b=>bl a.f0 b.f0=true) (hm:∀ q:Z2,q∈E↔q.f0∈(B.flatMap (·.f1)).map (fun r:Z2=>r.f0)∧q.f1≠[]∧q.f1=Z3y kf q.f0 (B.flatMap (·.f1))):Zb.f B=some E:=by
 generalize hR:B.flatMap (·.f1)=R at *;obtain⟨y,e1,hy⟩:=j_l0 kf hB hb hk (by rw[hR];exact hs) B [] [] 0 rfl rfl ⟨by simp,fun key h=>by simp at h,fun key h=>rfl⟩;rw[hR] at hy;have hmem:∀ k s,(k,s)∈y↔k∈R.map (fun r:Z2=>r.f0)∧s=Z3y kf k R:=fun k s=>by
  rw[← Z5q y hy.nodup];by_cases c:k∈R.map (fun r:Z2=>r.f0)
  ·rw[hy.get _ c]
   exact⟨fun h=>⟨c,(Option.some.inj h).symm⟩,fun h=>by rw[h.2]⟩
  ·rw[hy.non _ c]
   exact⟨fun h=>(by cases h),fun h=>absurd h.1 c⟩
 have hyl:y.length≤1000000:=by
  have h1:=Z8d (y.map (·.1)) (R.map (fun r:Z2=>r.f0)) hy.nodup (fun k hk=>by
   obtain⟨⟨k',s⟩,hq,rfl⟩:=List.mem_map.1 hk;exact((hmem k' s).1 hq).1)
  simp only[List.length_map] at h1;omega
 unfold Zb.f;rw[e1,sb];have hr:rchk (fun(p:List (ByteArray×List Zf)) (_:Unit)=>(Zb.en p [])>>=fun o=>Z05.f o) y ()=some E:=rchk_eq fun p hp=>by
  have hpy:∀ q,q∈p↔q∈y:=fun q=>hp.mem_iff
  have hpl:=hp.length_eq;have hen:=j_en p [] (fun q hq=>by
   obtain⟨k,s⟩:=q;obtain⟨_,rfl⟩:=(hmem k s).1 ((hpy _).1 hq);have:=@Z9b kf k R;exact⟨hT k,by show(Z3y kf k R).length≤_;omega⟩) (by simp;omega)
  show(Zb.en p []>>=fun o=>Z05.f o)=some E;rw[hen,sb,List.nil_append];have hol:(p.flatMap fun q=>Z1v q.1 q.2).length≤p.length:=by
   clear hen hpl hpy hp
   induction p with
   | nil=>simp
   | cons q p ih =>
    rw[List.flatMap_cons,List.length_append,List.length_cons];have:(Z1v q.1 q.2).length≤1:=by unfold Z1v;split<;>simp
    omega
  obtain⟨r,r1,r2,r3⟩:=GS.sortF rowCmp rowLt_swo (p.flatMap fun q=>Z1v q.1 q.2) (by omega);rw[rsort_inst,r1];have hom:∀ q:Z2,q∈r↔q∈E:=fun q=>by
   rw[r2.mem_iff,hm,List.mem_flatMap];constructor
   ·rintro⟨⟨k,s⟩,hq,h⟩
    obtain⟨g1,g2⟩:=(hmem k s).1 ((hpy _).1 hq);unfold Z1v at h;by_cases c:s.isEmpty=true
    ·rw[if_pos c] at h;simp at h
    ·rw[if_neg c] at h
     obtain rfl:=List.mem_singleton.1 h;exact⟨g1,by simpa using c,g2⟩
   ·rintro⟨g1,g2,g3⟩
    refine⟨(q.f0,q.f1),(hpy _).2 ((hmem _ _).2 ⟨g1,g3⟩),?_⟩;unfold Z1v;rw[if_neg (by simpa using g2)];exact List.mem_singleton.2 rfl
  have hnd:(r.map (fun r:Z2=>r.f0)).Nodup:=by
   have h1:(r.map (fun r:Z2=>r.f0)).Perm ((p.flatMap fun q=>Z1v q.1 q.2).map (fun r:Z2=>r.f0)):=r2.map _;refine h1.nodup_iff.2 ?_;have hpn:(p.map (·.1)).Nodup:=(hp.map _).nodup_iff.2 hy.nodup;clear h1 r3 r2 r1 hom hol hen hpl hpy hp
   induction p with
   | nil=>simp
   | cons q p ih =>
    rw[List.map_cons,List.nodup_cons] at hpn;rw[List.flatMap_cons,List.map_append];have ih:=ih hpn.2;unfold Z1v;by_cases c:q.2.isEmpty=true
    ·rw[if_pos c];exact ih
    ·rw[if_neg c]
     show(q.1::_).Nodup;refine List.nodup_cons.2 ⟨fun hq=>hpn.1 ?_,ih⟩;obtain⟨z,hz,hz2⟩:=List.mem_map.1 hq;obtain⟨q',hq',hz3⟩:=List.mem_flatMap.1 hz;by_cases c':q'.2.isEmpty=true
     ·rw[if_pos c'] at hz3;simp at hz3
     ·rw[if_neg c'] at hz3
      obtain rfl:=List.mem_singleton.1 hz3;exact List.mem_map.2 ⟨q',hq',hz2⟩
  have hrs:r.Pairwise fun a b=>bl a.f0 b.f0=true:=by
   rw[List.Nodup,List.pairwise_map] at hnd;refine(r3.and hnd).imp (fun {a b} h => ?_);obtain⟨h3,h4⟩:=h;simp only[rowLt] at h3;cases h5:bl a.f0 b.f0 with
   | true=>rfl
   | false=>exact absurd (bl_tri' h5 h3) h4
  rw[rise_uniq (lt:=fun a b:Z2=>bl a.f0 b.f0=true) (fun a h=>by rw[Zab] at h;cases h) (fun a b h h2=>by have h3:bl b.f0 a.f0=false:=bl_asymm h;rw[h3] at h2;cases h2) hrs hE hom]
 rw[hr,sb]
structure Z8a (l:List Z2):Prop where
 len:l.length≤64
 ne:∀ r∈l,r.f1≠[]
 up:∀ r∈l,r.f1.Pairwise fun a b=>a.f0<b.f0
 tm:∀ r∈l,∀ s∈r.f1,0≤s.f0∧s.f0<4611686018427387904
 keys:l.Pairwise fun a b=>bl a.f0 b.f0=true
 sum:(l.map fun r=>r.f1.length).sum≤1200
theorem sum_mem {α:Type} (f:α→Nat):∀ {l:List α} {x:α},x∈l→f x≤(l.map f).sum
 | y::l,x,h=>by
  rw[List.map_cons,List.sum_cons];rcases List.mem_cons.1 h with rfl | h
  ·omega
  ·have:=sum_mem f h;omega
theorem Z8a.ne_keys {l:List Z2} (h:Z8a l):l.Pairwise fun a b=>a.f0≠b.f0:=h.keys.imp (fun {a b} h e=>by rw[e,Zab] at h;cases h)
theorem Z8a.mkIn {l:List Z2} (h:Z8a l):MkIn l:=⟨by have:=h.len;omega,fun r hr=>⟨by have:=sum_mem (fun r:Z2=>r.f1.length) hr;have:=h.sum;omega,h.tm r hr⟩,h.ne_keys⟩
theorem uniq_key:∀ {l:List Z2},(l.Pairwise fun a b=>a.f0≠b.f0)→∀ {r q:Z2},r∈l→q∈l→r.f0=q.f0→r=q
 | [],_,r,q,hr,_,_=>by simp at hr
 | x::l,h,r,q,hr,hq,e=>by
  obtain⟨h1,h2⟩:=List.pairwise_cons.1 h;by_cases c1:r=x
  ·by_cases c2:q=x
   ·rw[c1,c2]
   ·have hq:=(List.mem_cons.1 hq).resolve_left c2
    exact absurd (by rw[← e,c1]) (h1 q hq)
  ·have hr:=(List.mem_cons.1 hr).resolve_left c1
   by_cases c2:q=x
   ·exact absurd (by rw[e,c2]) (h1 r hr)
   ·exact uniq_key h2 hr ((List.mem_cons.1 hq).resolve_left c2) e
theorem atLow_keys {k lo:Int} {l:List Z2} (h:l.Pairwise fun a b=>a.f0≠b.f0):(Z2v k lo l).Pairwise fun a b=>a.f0≠b.f0:=by
 unfold Z2v;rw[List.pairwise_flatMap];have hm:∀ (r:Z2) (q:Z2),q∈Z1v r.f0 (Z1z k lo r.f1)→q.f0=r.f0:=fun r q hq=>by
  unfold Z1v at hq;split at hq
  ·simp at hq
  ·rw[List.mem_singleton.1 hq]
 refine⟨fun r hr => ?_,h.imp (fun {a b} h x hx y hy=>by rw[hm a x hx,hm b y hy];exact h)⟩;unfold Z1v;split<;>simp
theorem Z8e {k:Int} {l:List Z2} {B:List Z3} (hB:Made k l B) {q:Z2}:q∈B.flatMap (·.f1)↔∃ lo,∃ r∈l,q.f0=r.f0∧q.f1=Z1z k lo r.f1∧q.f1≠[]:=by
 rw[List.mem_flatMap];constructor
 ·rintro⟨b,hb,hq⟩
  obtain⟨lo,_,rfl⟩:=(hB.mem b).1 hb;exact⟨lo,Z36.1 hq⟩
 ·rintro⟨lo,h⟩
  have h2:q∈Z2v k lo l:=Z36.2 h;exact⟨Z70 k lo l,(hB.mem _).2 ⟨lo,fun e=>by rw[e] at h2;simp at h2,rfl⟩,h2⟩
theorem made_mem {k:Int} {l:List Z2} {B:List Z3} (hw:Z8a l) (hB:Made k l B) (kf:ByteArray→Zf→Bool) {r:Z2} (hr:r∈l) (s:Zf):s∈Z3y kf r.f0 (B.flatMap (·.f1))↔s∈r.f1.filter (kf r.f0):=by
 unfold Z3y;rw[List.mem_flatMap,List.mem_filter];constructor
 ·rintro⟨q,hq,hs⟩
  obtain⟨lo,r',hr',g1,g2,g3⟩:=(Z8e hB).1 hq;by_cases c:q.f0=r.f0
  ·rw[if_pos c,List.mem_filter] at hs
   obtain rfl:=uniq_key hw.ne_keys hr' hr (g1.symm.trans c);rw[g2] at hs;exact⟨(List.mem_filter.1 hs.1).1,hs.2⟩
  ·rw[if_neg c] at hs;simp at hs
 ·rintro⟨h1,h2⟩
  have hin:s∈Z1z k (lowT k s.f0) r.f1:=List.mem_filter.2 ⟨h1,by simp⟩;refine⟨⟨r.f0,Z1z k (lowT k s.f0) r.f1⟩,(Z8e hB).2 ⟨lowT k s.f0,r,hr,rfl,rfl,fun e=>by
   have e:Z1z k (lowT k s.f0) r.f1=[]:=e;rw[e] at hin;simp at hin⟩,?_⟩
  rw[if_pos rfl,List.mem_filter];exact⟨hin,h2⟩
theorem made_up {k:Int} {l:List Z2} {B:List Z3} (hw:Z8a l) (hB:Made k l B) (kf:ByteArray→Zf→Bool) (key:ByteArray):(Z3y kf key (B.flatMap (·.f1))).Pairwise fun a b=>a.f0<b.f0:=by
 have e:Z3y kf key (B.flatMap (·.f1))=B.flatMap fun b=>b.f1.flatMap fun r=>if r.f0=key then r.f1.filter (kf key) else []:=by
  unfold Z3y;rw[List.flatMap_assoc]
 rw[e,List.pairwise_flatMap];constructor
 ·intro b hb
  obtain⟨lo,_,rfl⟩:=(hB.mem b).1 hb;show((Z2v k lo l).flatMap _).Pairwise _;rw[List.pairwise_flatMap];constructor
  ·intro q hq
   obtain⟨r,hr,g1,g2,g3⟩:=Z36.1 hq;split
   ·rw[g2];exact((hw.up r hr).filter _).filter _
   ·exact List.Pairwise.nil
  ·refine(atLow_keys hw.ne_keys).imp (fun {a b} h x hx y hy => ?_)
   split at hx
   ·rename_i c1
    split at hy
    ·rename_i c2;exact absurd (c1.trans c2.symm) h
    ·simp at hy
   ·simp at hx
 ·refine hB.up.imp_of_mem (fun {a b} ha hb h x hx y hy => ?_)
  obtain⟨la,_,rfl⟩:=(hB.mem a).1 ha;obtain⟨lb,_,rfl⟩:=(hB.mem b).1 hb;have h:la<lb:=h;have key2:∀ lo x,x∈((Z70 k lo l).f1.flatMap fun r=>if r.f0=key then r.f1.filter (kf key) else [])→lowT k x.f0=lo∧0≤x.f0:=fun lo x hx=>by
   obtain⟨q,hq,hx⟩:=List.mem_flatMap.1 hx;obtain⟨r,hr,g1,g2,g3⟩:=Z36.1 hq;split at hx
   ·have h1:=(List.mem_filter.1 hx).1
    rw[g2] at h1;have h2:=List.mem_filter.1 h1;exact⟨by simpa using h2.2,(hw.tm r hr x h2.1).1⟩
   ·simp at hx
  obtain⟨p1,p2⟩:=key2 la x hx;obtain⟨p3,p4⟩:=key2 lb y hy;exact lowT_mono (k:=k) (by omega) p2 p4
theorem made_from {k:Int} {l:List Z2} {B:List Z3} (hw:Z8a l) (hB:Made k l B) (kf:ByteArray→Zf→Bool) {r:Z2} (hr:r∈l):Z3y kf r.f0 (B.flatMap (·.f1))=r.f1.filter (kf r.f0) :=
 rise_uniq (lt:=fun a b:Zf=>a.f0<b.f0) (fun a h=>by omega) (fun a b h=>by omega) (made_up hw hB kf r.f0) ((hw.up r hr).filter _) (made_mem hw hB kf hr)
theorem made_key {k:Int} {l:List Z2} {B:List Z3} (hw:Z8a l) (hB:Made k l B) {key:ByteArray}:key∈(B.flatMap (·.f1)).map (fun r:Z2=>r.f0)↔∃ r∈l,r.f0=key:=by
 rw[List.mem_map];constructor
 ·rintro⟨q,hq,rfl⟩
  obtain⟨lo,r,hr,g1,_⟩:=(Z8e hB).1 hq;exact⟨r,hr,g1.symm⟩
 ·rintro⟨r,hr,rfl⟩
  obtain⟨s,hs⟩:=List.exists_mem_of_ne_nil _ (hw.ne r hr);have hin:s∈Z1z k (lowT k s.f0) r.f1:=List.mem_filter.2 ⟨hs,by simp⟩;refine⟨⟨r.f0,Z1z k (lowT k s.f0) r.f1⟩,(Z8e hB).2 ⟨lowT k s.f0,r,hr,rfl,rfl,fun e => ?_⟩,rfl⟩;have e:Z1z k (lowT k s.f0) r.f1=[]:=e;rw[e] at hin;simp at hin
theorem zero_sum {α:Type}:∀ (C:List α) (f:α→Nat),(∀ b,f b=0)→(C.map f).sum=0
 | [],_,_=>rfl
 | b::C,f,h=>by rw[List.map_cons,List.sum_cons,h b,zero_sum C f h]
theorem made_lens {k:Int} {l:List Z2} {B:List Z3} (hw:Z8a l) (hB:Made k l B):B.length≤1200∧(∀ b∈B,b.f1.length≤64)∧((B.flatMap (·.f1)).map fun r=>r.f1.length).sum=(l.map fun r=>r.f1.length).sum∧(B.flatMap (·.f1)).length≤100000:=by
 have hb:∀ b∈B,b.f1.length≤64:=fun b hb=>by
  obtain⟨lo,_,rfl⟩:=(hB.mem b).1 hb;have:=Z9m k lo l;have:=hw.len;show(Z2v k lo l).length≤64;omega
 have hnd:(B.map fun b=>b.f0.f0).Nodup:=by
  rw[List.Nodup,List.pairwise_map];exact hB.up.imp (fun {a b} h e=>by omega)
 have hlen:B.length≤(l.flatMap fun r=>r.f1.map fun s=>lowT k s.f0).length:=by
  have:=Z8d (B.map fun b=>b.f0.f0) (l.flatMap fun r=>r.f1.map fun s=>lowT k s.f0) hnd (fun lo hlo=>by
   obtain⟨b,hb,rfl⟩:=List.mem_map.1 hlo;obtain⟨lo,hne,rfl⟩:=(hB.mem b).1 hb;obtain⟨q,hq⟩:=List.exists_mem_of_ne_nil _ hne;obtain⟨r,hr,g1,g2,g3⟩:=Z36.1 hq;obtain⟨s,hs⟩:=List.exists_mem_of_ne_nil _ g3;rw[g2] at hs;have h2:=List.mem_filter.1 hs;exact List.mem_flatMap.2 ⟨r,hr,List.mem_map.2 ⟨s,h2.1,(of_decide_eq_true h2.2:lowT k s.f0=lo)⟩⟩)
  simpa using this
 have hlen2:(l.flatMap fun r=>r.f1.map fun s=>lowT k s.f0).length=(l.map fun r=>r.f1.length).sum:=by simp[List.length_flatMap]
 have hsum:=hw.sum;have hB1:B.length≤1200:=by omega
 refine⟨hB1,hb,?_,?_⟩
 ·
  have h1:((B.flatMap (·.f1)).map fun r=>r.f1.length).sum=(B.map fun b=>(b.f1.map fun r=>r.f1.length).sum).sum:=by
   clear hlen hnd hb hB hB1
   induction B with
   | nil=>rfl
   | cons b B ih=>rw[List.flatMap_cons,List.map_append,List.sum_append,ih,List.map_cons,List.sum_cons]
  have h2:∀ b∈B,(b.f1.map fun r=>r.f1.length).sum=(l.map fun r=>(Z1z k b.f0.f0 r.f1).length).sum:=fun b hb=>by
   obtain⟨lo,hne,rfl⟩:=(hB.mem b).1 hb;show((Z2v k lo l).map fun r=>r.f1.length).sum=(l.map fun r=>(Z1z k lo r.f1).length).sum;clear hlen hnd hb hB hB1 hw hsum hlen2 hne
   induction l with
   | nil=>rfl
   | cons r l ih =>
    have e:Z2v k lo (r::l)=Z1v r.f0 (Z1z k lo r.f1)++Z2v k lo l:=by simp[Z2v]
    rw[e,List.map_append,List.sum_append,ih,List.map_cons,List.sum_cons];congr 1;unfold Z1v;by_cases c:(Z1z k lo r.f1).isEmpty=true
    ·rw[if_pos c,List.isEmpty_iff.1 c];rfl
    ·rw[if_neg c];simp
  rw[h1,List.map_congr_left h2];have h3:∀ ss:List Zf,(∀ s∈ss,lowT k s.f0∈B.map fun b=>b.f0.f0)→(B.map fun b=>(Z1z k b.f0.f0 ss).length).sum=ss.length:=fun ss=>by
   induction ss with
   | nil=>intro _;exact zero_sum B _ (fun _=>rfl)
   | cons s ss ih =>
    intro h;have ih:=ih (fun x hx=>h x (by simp[hx]));have hone:∀ C:List Z3,(C.map fun b=>b.f0.f0).Nodup→(C.map fun b=>(Z1z k b.f0.f0 (s::ss)).length).sum=(C.map fun b=>(Z1z k b.f0.f0 ss).length).sum+(if lowT k s.f0∈C.map fun b=>b.f0.f0 then 1 else 0):=fun C=>by
     induction C with
     | nil=>intro _;rfl
     | cons b C ih2 =>
      intro hn;rw[List.map_cons,List.nodup_cons] at hn;have ih2:=ih2 hn.2;rw[List.map_cons,List.sum_cons,ih2,List.map_cons,List.sum_cons];by_cases c:lowT k s.f0=b.f0.f0
      ·have e1:(Z1z   k b.f0.f0 (s::ss)).length=(Z1z   k b.f0.f0 ss).length+1:=by simp[Z1z  ,c]
       rw[e1,if_pos (show lowT k s.f0∈(b::C).map fun b=>b.f0.f0 by rw[c];simp),if_neg (by rw[c];exact hn.1)];omega
      ·have e1:(Z1z   k b.f0.f0 (s::ss)).length=(Z1z   k b.f0.f0 ss).length:=by simp[Z1z  ,c]
       rw[e1];by_cases d:lowT k s.f0∈C.map fun b=>b.f0.f0
       ·rw[if_pos d,if_pos (show lowT k s.f0∈(b::C).map fun b=>b.f0.f0 by rw[List.map_cons];exact List.mem_cons_of_mem _ d)];omega
       ·rw[if_neg d,if_neg (show ¬ lowT k s.f0∈(b::C).map fun b=>b.f0.f0 by rw[List.map_cons,List.mem_cons];rintro(e | e);exact c e;exact d e)];omega
    rw[hone B hnd,ih,if_pos (h s (by simp))];rfl
  have h4:∀ (m:List Z2),(∀ r∈m,∀ s∈r.f1,lowT k s.f0∈B.map fun b=>b.f0.f0)→(B.map fun b=>(m.map fun r=>(Z1z k b.f0.f0 r.f1).length).sum).sum=(m.map fun r=>r.f1.length).sum:=fun m=>by
   induction m with
   | nil=>intro _;exact zero_sum B _ (fun _=>rfl)
   | cons r m ih =>
    intro h;have ih:=ih (fun x hx=>h x (by simp[hx]));have e:∀ C:List Z3,(C.map fun b=>((r::m).map fun r=>(Z1z k b.f0.f0 r.f1).length).sum).sum=(C.map fun b=>(Z1z k b.f0.f0 r.f1).length).sum+(C.map fun b=>(m.map fun r=>(Z1z k b.f0.f0 r.f1).length).sum).sum:=fun C=>by
     induction C with
     | nil=>rfl
     | cons b C ih2=>rw[List.map_cons,List.sum_cons,ih2,List.map_cons,List.sum_cons,List.map_cons,List.sum_cons,List.map_cons,List.sum_cons];omega
    rw[e,ih,h3 r.f1 (h r (by simp)),List.map_cons,List.sum_cons]
  refine h4 l (fun r hr s hs => ?_);have hin:s∈Z1z k (lowT k s.f0) r.f1:=List.mem_filter.2 ⟨hs,by simp⟩;have h5:(⟨r.f0,Z1z k (lowT k s.f0) r.f1⟩:Z2)∈Z2v k (lowT k s.f0) l:=Z36.2 ⟨r,hr,rfl,rfl,fun e=>by
   have e:Z1z k (lowT k s.f0) r.f1=[]:=e;rw[e] at hin;simp at hin⟩
  exact List.mem_map.2 ⟨Z70 k (lowT k s.f0) l,(hB.mem _).2 ⟨_,fun e=>by rw[e] at h5;simp at h5,rfl⟩,rfl⟩
 ·have h1:(B.flatMap (·.f1)).length≤64*B.length:=by
   clear hlen hnd hB hB1
   induction B with
   | nil=>simp
   | cons b B ih =>
    rw[List.flatMap_cons,List.length_append,List.length_cons];have:=hb b (by simp);have:=ih (fun b hb'=>hb b (by simp[hb']));omega
  omega
theorem join_made {k:Int} {l:List Z2} {B:List Z3} (hw:Z8a l) (hB:Made k l B) (kf:ByteArray→Zf→Bool) (hk:∀ r:Z2,(∃ q∈l,r.f0=q.f0∧r.f1.length≤1200)→Z16.f (⟨(⟨[]⟩:Z0v).f0⟩:Z0v) r.f1=some (r.f1.filter (kf r.f0))):Zb.f B=some (l.flatMap fun r=>Z1v r.f0 (r.f1.filter (kf r.f0))):=by
 obtain⟨n1,n2,n3,n4⟩:=made_lens hw hB;have hsum:=hw.sum;refine join_spec kf (by omega) (fun b hb=>by have:=n2 b hb;omega) (fun b hb r hr => ?_) (by omega) (by omega) (made_up hw hB kf) ?_ (fun q => ?_)
 ·obtain⟨lo,_,rfl⟩:=(hB.mem b).1 hb
  obtain⟨q,hq,g1,g2,g3⟩:=Z36.1 hr;refine hk r ⟨q,hq,g1,?_⟩;have h1:r.f1.length≤q.f1.length:=by rw[g2];exact List.length_filter_le _ _
  have h2:=sum_mem (fun r:Z2=>r.f1.length) hq;omega
 ·rw[List.pairwise_flatMap]
  have hm:∀ (r:Z2) (q:Z2),q∈Z1v r.f0 (r.f1.filter (kf r.f0))→q.f0=r.f0:=fun r q hq=>by
   unfold Z1v at hq;split at hq
   ·simp at hq
   ·rw[List.mem_singleton.1 hq]
  refine⟨fun r hr => ?_,hw.keys.imp (fun {a b} h x hx y hy=>by rw[hm a x hx,hm b y hy];exact h)⟩;unfold Z1v;split<;>simp
 ·rw[List.mem_flatMap,made_key hw hB]
  constructor
  ·rintro⟨r,hr,h⟩
   unfold Z1v at h;split at h
   ·simp at h
   ·rename_i c
    obtain rfl:=List.mem_singleton.1 h;exact⟨⟨r,hr,rfl⟩,by simpa using c,(made_from hw hB kf hr).symm⟩
  ·rintro⟨⟨r,hr,e⟩,h1,h2⟩
   rw[← e,made_from hw hB kf hr] at h2;refine⟨r,hr,?_⟩;unfold Z1v;rw[if_neg (by rw[← h2];simpa using h1),← h2,e];exact List.mem_singleton.2 rfl
theorem wrows_of {l:List Z2} (h:Z85 none l=true) (hl:l.length≤64) (hs:Z3i l≤1200):Z8a l:=by
 obtain⟨h1,h2,_⟩:=rowsB_ok l none h;refine⟨hl,fun r hr=>(h1 r hr).2.2,fun r hr=>(rise_up _ _ (h1 r hr).2.1).1,fun r hr s hs => ?_,h2,by have:=(Z6q l).2;omega⟩;have:=rise_ok _ _ (h1 r hr).2.1 s hs;simp only[sok,timeOK,Bool.and_eq_true,decide_eq_true_eq] at this;exact⟨this.1.1,by omega⟩
theorem keep_nil (r:Z2) (h:r.f1.length≤1200):Z16.f (⟨(⟨[]⟩:Z0v).f0⟩:Z0v) r.f1=some (r.f1.filter fun _=>true):=by
 rw[t_keep_eq [] (by simp) Apart.nil r.f1 (by omega)];congr 1;refine List.filter_congr (fun s _ => ?_);rw[hasB_nil];rfl
theorem flat_all {l:List Z2} (h:∀ r∈l,r.f1≠[]):(l.flatMap fun r=>Z1v r.f0 (r.f1.filter fun _=>true))=l:=by
 induction l with
 | nil=>rfl
 | cons r l ih =>
  rw[List.flatMap_cons,ih (fun x hx=>h x (by simp[hx])),List.filter_eq_self.2 (fun _ _=>rfl)];have:Z1v r.f0 r.f1=[r]:=if_neg (by simpa using h r (by simp));rw[this];rfl
theorem join_nil {k:Int} {l:List Z2} {B:List Z3} (hw:Z8a l) (hB:Made k l B):Zb.f B=some l:=by
 rw[join_made hw hB (fun _ _=>true) (fun r ⟨q,hq,_,h⟩=>keep_nil r h),flat_all hw.ne]
theorem bj_l0 (a0:List Z2) (a1 a2:Int) (hl:a0.length≤100000):∀ (suf pre:List Z2) (i:Int),a0=pre++suf→i=(pre.length:Int)→Zz.l0 a0 a1 a2 pre i=some a0:=by
 intro suf
 induction suf with
 | nil=>intro pre i h1 hi;rw[Zz.l0,if_neg (by rw[h1];simp[hi]),h1];simp
 | cons r suf ih =>
  intro pre i h1 hi;have hlen:a0.length=pre.length+(suf.length+1):=by rw[h1];simp
  rw[Zz.l0,if_pos (by simp;omega),Z1i h1 hi,sb,chkB (by simp;omega),Z07 (by omega) (by omega)];exact ih (pre++[r]) (i+1) (by simp[h1]) (by simp;omega)
theorem bj_l1 (a0:List Z2) (a1:Int) (x:List Z3) (j:List Z2) (y:List Z3) (hl:j.length≤100000):∀ (suf pre:List Z2) (i:Int),j=pre++suf→i=(pre.length:Int)→Zz.l1 a0 a1 x j y pre i=some j:=by
 intro suf
 induction suf with
 | nil=>intro pre i h1 hi;rw[Zz.l1,if_neg (by rw[h1];simp[hi]),h1];simp
 | cons r suf ih =>
  intro pre i h1 hi;have hlen:j.length=pre.length+(suf.length+1):=by rw[h1];simp
  rw[Zz.l1,if_pos (by simp;omega),Z1i h1 hi,sb,chkB (by simp;omega),Z07 (by omega) (by omega)];exact ih (pre++[r]) (i+1) (by simp[h1]) (by simp;omega)
theorem bj_l2 (a0:List Z2) (a1:Int) (x:List Z3) (j q p:List Z2) (hl:q.length≤100000):∀ (suf pre:List Z2) (i:Int),q=pre++suf→i=(pre.length:Int)→Zz.l2 a0 a1 x j q p pre i=some q:=by
 intro suf
 induction suf with
 | nil=>intro pre i h1 hi;rw[Zz.l2,if_neg (by rw[h1];simp[hi]),h1];simp
 | cons r suf ih =>
  intro pre i h1 hi;have hlen:q.length=pre.length+(suf.length+1):=by rw[h1];simp
  rw[Zz.l2,if_pos (by simp;omega),Z1i h1 hi,sb,chkB (by simp;omega),Z07 (by omega) (by omega)];exact ih (pre++[r]) (i+1) (by simp[h1]) (by simp;omega)
theorem bj_l3 (x:List Z3) (hl:x.length≤100000) (hb:∀ b∈x,b.f1.length≤100000∧∀ r∈b.f1,r.f1.length<1000000000000∧∀ s∈r.f1,s.f1.f6.length<1000000000000∧s.f1.f7.length<1000000000000):∀ (suf pre:List Z3) (i:Int),x=pre++suf→i=(pre.length:Int)→Zz.l3 x x i=some (.inr ()):=by
 intro suf
 induction suf with
 | nil=>intro pre i h1 hi;rw[Zz.l3,if_neg (by rw[h1];simp[hi])]
 | cons b suf ih =>
  intro pre i h1 hi;have hlen:x.length=pre.length+(suf.length+1):=by rw[h1];simp
  obtain⟨g1,g2⟩:=hb b (by rw[h1];simp);rw[Zz.l3,if_pos (by simp;omega),Z1i h1 hi,sb,sb,if_neg (by simp),fr16 b (by omega),sb,sb,show(ofBlk b).f3=b.f1 from rfl,same16 b.f1 (by omega) g2,sb,sb,if_neg (by simp),Z07 (by omega) (by omega)];exact ih (pre++[b]) (i+1) (by simp[h1]) (by simp;omega)
theorem lev5 {a:Int} (h:0≤a∧a<256):i64.wrap (Int.tmod a 5)=a % 5∧0≤a % 5∧a % 5≤4:=by
 rw[Int.tmod_eq_emod_of_nonneg h.1,Z07 (by omega) (by omega)];omega
theorem blockJoins_R (a0:List Z2) (a1 a2:Int) (R0:a0.length≤1048576∧∀ y∈a0,Z2s y) (R1:Rng 0 256 a1) (R2:Rng 0 256 a2):Zz.f a0 a1 a2=some true:=by
 obtain⟨hlen,hR⟩:=R0;unfold Zz.f;rw[light16 a0 hlen hR,sb];by_cases hL:Z3i a0≤1200
 case neg=>rw[decide_eq_false hL,if_pos (show(!false)=true from rfl),sb,if_pos rfl,awake16,sb]
 rw[decide_eq_true hL,if_neg (by simp)];have hrb:=rowB_of hR hL;have hl2:a0.length≤1200:=by have:=(Z6q a0).1;omega
 rw[rows16 a0 (by omega) hrb,sb];cases hrw:(Z85 none a0&&decide (a0.length≤64)) with
 | false=>rw[sb,if_pos (show(!false)=true from rfl),awake16,sb]
 | true =>
  rw[sb,if_neg (by simp)];simp only[Bool.and_eq_true,decide_eq_true_eq] at hrw;have hw:=wrows_of hrw.1 hrw.2 hL;obtain⟨e1,p1,p2⟩:=lev5 R1;obtain⟨e2,p3,p4⟩:=lev5 R2;have hsum:=hw.sum;obtain⟨X,hX,mX⟩:=make_spec p1 p2 hw.mkIn (by omega);obtain⟨Y,hY,mY⟩:=make_spec p3 p4 hw.mkIn (by omega);have hsz:∀ r∈a0,r.f1.length<1000000000000∧∀ s∈r.f1,s.f1.f6.length<1000000000000∧s.f1.f7.length<1000000000000:=fun r hr=>⟨by have:=(hrb r hr).n;omega,fun s hs=>⟨by have:=((hR r hr).r1.2 s hs).r1.r6.1;omega,by have:=((hR r hr).r1.2 s hs).r1.r7.1;omega⟩⟩
  have hsame:=same16 a0 (by omega) hsz;rw[bj_l0 a0 a1 a2 (by omega) a0 [] 0 rfl rfl,sb,e1,hX,sb,join_nil hw mX,sb,e2,hY,sb,bj_l1 a0 a1 X a0 Y (by omega) a0 [] 0 rfl rfl,sb,join_nil hw mY,sb,bj_l2 a0 a1 X a0 a0 a0 (by omega) a0 [] 0 rfl rfl,sb,hsame,sb,if_neg (by simp),sb,sb,if_neg (by simp),hX,sb,if_neg (by simp)];obtain⟨n1,n2,_,_⟩:=made_lens hw mX;rw[bj_l3 X (by omega) (fun b hb => ?_) X [] 0 rfl rfl,sb]
  ·show(        Z2p.f>>=fun t=>some t)=some true
   rw[awake16,sb]
  ·refine⟨by have:=n2 b hb;omega,fun q hq => ?_⟩
   obtain⟨lo,_,rfl⟩:=(mX.mem b).1 hb;obtain⟨r,hr,g1,g2,g3⟩:=Z36.1 hq;obtain⟨s1,s2⟩:=hsz r hr;rw[g2];exact⟨Nat.lt_of_le_of_lt (List.length_filter_le _ _) s1,fun s hs=>s2 s (List.mem_filter.1 hs).1⟩
end Go.Proofs.Ytpoihfcehejgfaa.PvGP
