import Derived.Test.YtinhldbfifpakaaGreatPxEntryImages18
set_option linter.unusedVariables false
set_option linter.unusedSimpArgs false
set_option maxRecDepth 10000
namespace Go.Proofs.YtinhldbfifpakaaGreat.PvGL3
open Go Go.Pv Go.Pv.GS Go.IntKind
abbrev Z5n (r:Z1):Prop:=0≤r.f0∧r.f0≤r.f1∧r.f1≤1099511627776
def HasL (l:List Z1) (t:Int):Prop:=∃ r∈l,Z5n r∧r.f0≤t∧t≤r.f1
structure Z7p (l:List Z1):Prop where
 right:∀ r∈l,Z5n r
 gap:l.Pairwise (fun a b=>a.f1+1<b.f0)
theorem hasL_nil (t:Int):¬ HasL [] t:=by rintro⟨r,h,_⟩;simp at h
theorem Za2 (r:Z1) (l:List Z1) (t:Int):HasL (r::l) t↔(Z5n r∧r.f0≤t∧t≤r.f1)∨HasL l t:=by
 unfold HasL;simp
theorem Z9i (a b:List Z1) (t:Int):HasL (a++b) t↔HasL a t∨HasL b t:=by
 induction a with
 | nil=>simp[hasL_nil]
 | cons x a ih=>rw[List.cons_append,Za2,Za2,ih,or_assoc]
theorem hasL_perm {a b:List Z1} (h:a.Perm b) (t:Int):HasL a t↔HasL b t:=by
 unfold HasL;constructor
 ·rintro⟨r,hr,x⟩;exact⟨r,h.mem_iff.1 hr,x⟩
 ·rintro⟨r,hr,x⟩;exact⟨r,h.mem_iff.2 hr,x⟩
theorem hasL_filter (l:List Z1) (t:Int) (p:Z1→Bool) (hp:∀ r,Z5n r→p r=true):HasL (l.filter p) t↔HasL l t:=by
 unfold HasL;constructor
 ·rintro⟨r,hr,x⟩;exact⟨r,(List.mem_filter.1 hr).1,x⟩
 ·rintro⟨r,hr,x⟩;exact⟨r,List.mem_filter.2 ⟨hr,hp r x.1⟩,x⟩
theorem Z7p.nil:Z7p []:=⟨by simp,List.Pairwise.nil⟩
theorem Z7p.tail {x:Z1} {l:List Z1} (h:Z7p (x::l)):Z7p l:=⟨fun r hr=>h.right r (by simp[hr]),(List.pairwise_cons.1 h.gap).2⟩
theorem Z7p.head {x:Z1} {l:List Z1} (h:Z7p (x::l)):Z5n x:=h.right x (by simp)
theorem apart_concat {l:List Z1} {x:Z1} (h:Z7p (l++[x])):Z7p l∧Z5n x∧∀ r∈l,r.f1+1<x.f0:=by
 have g:=List.pairwise_append.1 h.gap;exact⟨⟨fun r hr=>h.right r (by simp[hr]),g.1⟩,h.right x (by simp),fun r hr=>g.2.2 r hr x (by simp)⟩
theorem Zfo {l:List Z1} {x:Z1} (h:Z7p l) (hx:Z5n x) (hg:∀ r∈l,r.f1+1<x.f0):Z7p (l++[x]) :=
 ⟨fun r hr => by rcases List.mem_append.1 hr with hr | hr; exact h.right r hr; simp at hr; rw [hr]; exact hx,
  List.pairwise_append.2 ⟨h.gap,List.pairwise_singleton _ _,fun a ha b hb=>by simp at hb;rw[hb];exact hg a ha⟩⟩
def rLt (a b:Z1):Bool:=decide (a.f0<b.f0)||(decide (a.f0=b.f0)&&decide (a.f1<b.f1))
theorem rLt_swo:SWO rLt:=⟨fun a b h=>by simp[rLt] at *;omega,fun a b c h1 h2=>by simp[rLt] at *;omega⟩
theorem Zb6 (a b:Int):Z2l.f a b=some (if a<b then -1 else if a>b then 1 else 0):=by
 unfold Z2l.f Z4a.f;by_cases h1:a<b
 ·simp[h1]
 ·by_cases h2:b<a
  ·simp[h1,h2]
  ·simp[h1,h2]
theorem or2 (a b:Int):Z3t.f [a,b]=some (if a≠0 then a else b):=by
 have w1:i64.wrap ((0:Int)+1)=1:=by decide
 have w2:i64.wrap ((1:Int)+1)=2:=by decide
 unfold Z3t.f;rw[Z3t.l0,if_pos (by simp),show at? [a,b] 0=some a from rfl,sb];by_cases ha:a=0
 ·subst ha
  rw[if_neg (by simp),w1,Z3t.l0,if_pos (by simp),show at? [0,b] 1=some b from rfl,sb];by_cases hb:b=0
  ·subst hb
   rw[if_neg (by simp),w2,Z3t.l0,if_neg (by simp)];rfl
  ·rw[if_pos (by simpa using hb)];simp[hb]
 ·rw[if_pos (by simpa using ha)];simp[ha]
theorem rCmp:Cmp Z0t.f rLt:=fun a b=>by
 refine⟨_,by unfold Z0t.f;rw[Zb6,sb,Zb6,sb,or2,sb],?_⟩;simp only[rLt];by_cases h1:a.f0<b.f0
 ·simp[h1]
 ·by_cases h2:b.f0<a.f0
  ·have h3:¬ a.f0=b.f0:=by omega
   simp[h1,h2,h3]
  ·have h3:a.f0=b.f0:=by omega
   by_cases h4:a.f1<b.f1
   ·simp[h1,h2,h3,h4]
   ·by_cases h5:b.f1<a.f1<;>simp[h1,h2,h3,h4,h5]
theorem t_right_eq (r:Z1):Z6h.f r=some (decide (Z5n r)):=by
 unfold Z6h.f;by_cases h1:0≤r.f0
 ·by_cases h2:r.f0≤r.f1<;>simp[h1,h2,Z5n]
 ·simp[h1,Z5n]
theorem bad_eq (r:Z1):Z5o.f r=some (!decide (Z5n r)):=by
 unfold Z5o.f;rw[t_right_eq,sb]
theorem clone_r (l:List Z1) (h:l.length<1000000000):Z1p.f l=some l:=by
 unfold Z1p.f;rw[chkB (by simp;omega)]
theorem del_inst:Z0d.f=deleteF.f Z5o.f ⟨0,0⟩:=by kernel_rfl
structure OfI (pre out:List Z1):Prop where
 apart:Z7p out
 has:∀ t,HasL out t↔HasL pre t
 seen:∀ o∈out,∃ p∈pre,p.f0=o.f0
 len:out.length≤pre.length
theorem tof_l0 (l:List Z1) (hl:l.length<1000000000) (hR:∀ r∈l,Z5n r) (hs:l.Pairwise (fun a b=>rLt b a=false)):∀ (suf pre out:List Z1) (i:Int),l=pre++suf→i=(pre.length:Int)→OfI pre out →
  ∃ out',Z4u.l0 l out i=some out'∧OfI l out':=by
 intro suf
 induction suf with
 | nil =>
  intro pre out i h1 hi hI;rw[List.append_nil] at h1;subst h1;rw[Z4u.l0,if_neg (by simp[hi])];exact⟨out,rfl,hI⟩
 | cons b suf ih =>
  intro pre out i h1 hi hI;have hb:=hR b (by rw[h1];simp);have hlen:l.length=pre.length+(suf.length+1):=by rw[h1];simp
  have holen:out.length≤pre.length:=hI.len;have hle:∀ p∈pre,p.f0≤b.f0:=fun p hp=>by
   rw[h1] at hs;have:=(List.pairwise_append.1 hs).2.2 p hp b (by simp);simp[rLt] at this;omega
  have e1:l=(pre++[b])++suf:=by simp[h1]
  have e2:i+1=((pre++[b]).length:Int):=by simp[hi]
  rw[Z4u.l0,if_pos (by rw[h1];simp[hi];omega),Z06 h1 hi,sb,Zc (n:=i+1) (by omega) (by omega)];have hroom:(out.length+[b].length)*16≤140737488355328:=by simp;omega
  have happ:∀ (hlt:∀ o∈out,o.f1+1<b.f0),OfI (pre++[b]) (out++[b]):=fun hlt =>
   ⟨Zfo hI.apart hb hlt,fun t=>by rw[Z9i,Z9i,hI.has],fun o ho=>by
    rcases List.mem_append.1 ho with ho | ho
    ·obtain⟨p,hp,e⟩:=hI.seen o ho;exact⟨p,by simp[hp],e⟩
    ·simp at ho;subst ho;exact⟨o,by simp,rfl⟩,by simp;omega⟩
  rcases List.eq_nil_or_concat out with rfl | ⟨o',o,rfl⟩
  ·rw[if_neg (by simp),sb,if_neg (by simp),chkB hroom,sb]
   exact ih (pre++[b]) _ (i+1) e1 e2 (happ (by simp))
  simp only[List.concat_eq_append] at *;have ho':o'.length<1000000000000:=by simp at holen;omega
  obtain⟨ha',hox,hog⟩:=apart_concat hI.apart;rw[if_pos (by simp),snoc_at _ _ ho',sb,sb,Zc (n:=o.f1+1) (by omega) (by omega)];by_cases hc:b.f0≤o.f1+1
  ·rw[if_pos (by simpa using hc),sb,snoc_set _ _ _ ho',sb]
   obtain⟨p,hp,hpo⟩:=hI.seen o (by simp);have hob:o.f0≤b.f0:=hpo ▸ hle p hp;refine ih (pre++[b]) _ (i+1) e1 e2 ⟨Zfo ha' ?_ ?_,fun t => ?_,fun q hq => ?_,by simp at holen ⊢;omega⟩
   ·show 0≤o.f0∧o.f0≤_∧_≤_
    split<;>(dsimp only;omega)
   ·intro r hr;exact hog r hr
   ·have:=hI.has t
    rw[Z9i,Za2] at this ⊢;rw[Z9i,Za2,← this];have n1:¬ HasL [] t:=hasL_nil t;by_cases q:HasL o' t
    ·simp[q]
    ·simp only[q,n1,or_false,false_or,Z5n   ] at *
     split<;>omega
   ·rcases List.mem_append.1 hq with hq | hq
    ·obtain⟨p,hp,e⟩:=hI.seen q (by simp[hq]);exact⟨p,by simp[hp],e⟩
    ·simp at hq;subst hq;exact⟨p,by simp[hp],hpo⟩
  ·rw[if_neg (by simpa using hc),chkB hroom,sb]
   exact ih (pre++[b]) _ (i+1) e1 e2 (happ (fun r hr=>by
    rcases List.mem_append.1 hr with hr | hr
    ·have:=hog r hr;omega
    ·simp at hr;subst hr;omega))
theorem of_spec (l:List Z1) (hl:l.length<1000000000):∃ r,Z4u.f l=some ⟨r⟩∧Z7p r∧(∀ t,HasL r t↔HasL l t)∧r.length≤l.length:=by
 unfold Z4u.f;rw[clone_r l hl,sb,del_inst,Zfi bad_eq _ _ (by omega),sb,tsort_inst];have hf:(l.filter fun x => !(!decide (Z5n x))).length≤l.length:=List.length_filter_le ..;obtain⟨s,e,hp,hs⟩:=sortF rCmp rLt_swo (l.filter fun x => !(!decide (Z5n x))) (by omega);rw[e,sb];have hsl:=hp.length_eq;obtain⟨out,e2,hI⟩:=tof_l0 s (by omega) (fun r hr=>by
  have:=(List.mem_filter.1 (hp.mem_iff.1 hr)).2;simpa using this) hs s [] [] 0 rfl rfl ⟨Z7p.nil,fun t=>Iff.rfl,by simp,by simp⟩
 rw[e2,sb];exact⟨out,rfl,hI.apart,fun t=>by rw[hI.has,hasL_perm hp,hasL_filter _ _ _ (fun r hr=>by simp[hr])],by have:=hI.len;omega⟩
theorem ranges_eq (s:Z37) (h:s.f0.length<1000000000):Z1e.f s=some s.f0:=by
 unfold Z1e.f;rw[clone_r _ h,sb]
theorem has_eq (l:List Z1) (hl:l.length<1000000000) (h:Z7p l) (t:Int):∃ b,Z58.f ⟨l⟩ t=some b∧(b=true↔HasL l t):=by
 unfold Z58.f;have hi:Zr.f=binF.f Z3o.f:=by kernel_rfl
 have hc:∀ x,Z3o.f x t=some (if x.f0<t then -1 else if x.f0>t then 1 else 0):=fun x=>by
  unfold Z3o.f;rw[Zb6,sb]
 have hlt:∀ i j (x y:Z1),i<j→l[i]? = some x→l[j]? = some y→x.f1+1<y.f0:=fun i j x y hij hx hy=>by
  obtain⟨hi',ex⟩:=List.getElem?_eq_some_iff.1 hx;obtain⟨hj',ey⟩:=List.getElem?_eq_some_iff.1 hy;have:=List.pairwise_iff_getElem.1 h.gap i j hi' hj' hij;rw[ex,ey] at this;exact this
 have hR:∀ i (x:Z1),l[i]? = some x→Z5n x:=fun i x hx=>h.right x (List.mem_of_getElem? hx)
 obtain⟨k,fb,hk,hfb,e⟩:=binF_eq hc l hl (fun i j x y hij hx hy hneg=>by
  have hyt:y.f0<t:=by
   by_cases q:y.f0<t
   ·exact q
   ·rw[if_neg q] at hneg;split at hneg<;>omega
  have:x.f0<t:=by
   by_cases q:i=j
   ·subst q;rw[hx] at hy;simp at hy;subst hy;exact hyt
   ·have:=hlt i j x y (by omega) hx hy
    have:=hR i x hx;omega
  rw[if_pos this];omega)
 have hlo:∀ m x,m<k→l[m]? = some x→x.f0<t:=fun m x hm hx=>by
  have:=hk.lo m x hm hx;by_cases q:x.f0<t
  ·exact q
  ·rw[if_neg q] at this;split at this<;>omega
 have hhi:∀ m x,k≤m→l[m]? = some x→t≤x.f0:=fun m x hm hx=>by
  have:=hk.hi m x hm hx;by_cases q:x.f0<t
  ·rw[if_pos q] at this;omega
  ·omega
 rw[hi,e,sb];have main:∀ (m:Nat) (x:Z1),l[m]? = some x→Z5n x∧x.f0≤t∧t≤x.f1→(∃ y,l[k]? = some y∧y.f0=t)∨(0<k∧∃ y,l[k-1]? = some y∧t≤y.f1):=fun m x hx q=>by
  have hml:=(List.getElem?_eq_some_iff.1 hx).1;by_cases hm:m<k
  ·right
   refine⟨by omega,?_⟩;by_cases hm1:m=k-1
   ·exact⟨x,hm1 ▸ hx,q.2.2⟩
   ·have hk1:k-1<l.length:=by have:=hk.le;omega
    have a:=hlo (k-1) _ (by omega) (List.getElem?_eq_getElem hk1);have b:=hlt m (k-1) x _ (by omega) hx (List.getElem?_eq_getElem hk1);omega
  ·left
   have hkl:k<l.length:=by omega
   refine⟨l[k],List.getElem?_eq_getElem hkl,?_⟩;have a:=hhi k _ (by omega) (List.getElem?_eq_getElem hkl);by_cases hmk:m=k
   ·subst hmk;rw[List.getElem?_eq_getElem hkl] at hx;simp at hx;rw[hx] at a ⊢;omega
   ·have b:=hlt k m _ x (by omega) (List.getElem?_eq_getElem hkl) hx
    have c:=hR k _ (List.getElem?_eq_getElem hkl);omega
 have main':HasL l t→(∃ y,l[k]? = some y∧y.f0=t)∨(0<k∧∃ y,l[k-1]? = some y∧t≤y.f1):=fun⟨r,hr,q⟩=>by
  obtain⟨m,hm⟩:=List.getElem?_of_mem hr;exact main m r hm q
 have hz:∀ y:Z1,(if y.f0<t then(-1:Int) else if y.f0>t then 1 else 0)=0↔y.f0=t:=fun y=>by
  by_cases q:y.f0<t
  ·rw[if_pos q];omega
  ·by_cases q2:y.f0>t
   ·rw[if_neg q,if_pos q2];omega
   ·rw[if_neg q,if_neg q2];omega
 simp only[hz] at hfb;dsimp only;by_cases hf:∃ y,l[k]? = some y∧y.f0=t
 ·rw[if_pos (hfb.2 hf),sb]
  obtain⟨y,hy,hyt⟩:=hf;refine⟨true,rfl,by simp;exact⟨y,List.mem_of_getElem? hy,hR k y hy,by omega,by have:=(hR k y hy).2.1;omega⟩⟩
 ·rw[if_neg (fun q=>hf (hfb.1 q))]
  by_cases hk0:0<k
  ·have hk1:k-1<l.length:=by have:=hk.le;omega
   have hy:=List.getElem?_eq_getElem hk1;rw[if_pos (by simpa using hk0),Zc (by have:=hk.le;omega) (by have:=hk.le;omega),Z88 (k:=k-1) (by omega) hy,sb,sb];refine⟨_,rfl,?_⟩;simp only[decide_eq_true_eq];constructor
   ·intro q
    exact⟨_,List.mem_of_getElem? hy,hR _ _ hy,by have:=hlo (k-1) _ (by omega) hy;omega,q⟩
   ·intro q
    rcases main' q with q | ⟨_,y,hy',q⟩
    ·exact absurd q hf
    ·rw[hy] at hy';simp at hy';rw[hy'];exact q
  ·rw[if_neg (by simpa using hk0),sb]
   refine ⟨false, rfl, by simp; intro q; rcases main' q with q | q
                          ·exact hf q
                          ·omega⟩
theorem to_l0 (l:List Z1) (hl:l.length<1000000000):∀ (suf pre:List Z1) (i:Int),l=pre++suf→i=(pre.length:Int)→Z62.l0 l pre i=some l:=by
 intro suf
 induction suf with
 | nil=>intro pre i h1 hi;rw[Z62.l0,if_neg (by rw[h1];simp[hi]),h1,List.append_nil]
 | cons b suf ih =>
  intro pre i h1 hi;have hlen:l.length=pre.length+(suf.length+1):=by rw[h1];simp
  rw[Z62.l0,if_pos (by simp;omega),Z06 h1 hi,sb,chkB (by simp;omega),Zc (by omega) (by omega)];exact ih (pre++[b]) (i+1) (by simp[h1]) (by simp;omega)
theorem t_to_eq (l:List Z1) (hl:l.length<1000000000):Z62.f l=some l:=by
 unfold Z62.f;rw[to_l0 l hl l [] 0 rfl rfl,sb]
open Classical in
noncomputable def hasB (l:List Z1) (t:Int):Bool:=decide (HasL l t)
theorem Zdp (l:List Z1) (t:Int):hasB l t=true↔HasL l t:=by simp[hasB]
theorem hasB_eq (l:List Z1) (hl:l.length<1000000000) (h:Z7p l) (t:Int):Z58.f ⟨l⟩ t=some (hasB l t):=by
 obtain⟨b,e,hb⟩:=has_eq l hl h t;rw[e,show b=hasB l t from Bool.eq_iff_iff.2 (hb.trans (Zdp l t).symm)]
theorem hasB_nil (t:Int):hasB [] t=false:=by
 cases e:hasB [] t with
 | false=>rfl
 | true=>exact absurd ((Zdp _ _).1 e) (hasL_nil t)
noncomputable abbrev kept (x:List Z1) (l:List Z7):List Z7:=l.filter (fun s => !hasB x s.f0)
theorem keep_inst (l:List Z7) (c:List Z1):Zt.f l c=deleteF.f (fun x=>Z2p.f x c) (⟨0,(⟨0,0,0,0,0,0,[],[]⟩:Zj)⟩:Z7) l:=by kernel_rfl
theorem t_keep_eq (x:List Z1) (hx:x.length<1000000000) (h:Z7p x) (l:List Z7) (hl:l.length<1000000000):Z31.f ⟨x⟩ l=some (kept x l):=by
 unfold Z31.f Z1a.f;rw[chkB (by simp;omega),sb,keep_inst,Zfi (p:=fun s=>hasB x s.f0) (fun s=>by unfold Z2p.f;rw[hasB_eq x hx h,sb]) _ _ (by omega),sb]
theorem refRight (r:Z1):Z5p.f r=some (decide (Z5n r)):=by
 unfold Z5p.f;by_cases h1:0≤r.f0
 ·by_cases h2:r.f0≤r.f1<;>simp[h1,h2,Z5n]
 ·simp[h1,Z5n]
theorem hasB_cons (x:Z1) (l:List Z1) (t:Int):hasB (x::l) t=(decide (Z5n x∧x.f0≤t∧t≤x.f1)||hasB l t):=by
 rw[Bool.eq_iff_iff,Zdp,Za2,Bool.or_eq_true,Zdp];simp
theorem refHas_l0 (l:List Z1) (t:Int) (hl:l.length<1000000000):∀ (suf pre:List Z1) (i:Int),l=pre++suf→i=(pre.length:Int) →
  Z5f.l0 l t i=some (if hasB suf t=true then .inl true else .inr ()):=by
 intro suf
 induction suf with
 | nil=>intro pre i h1 hi;rw[Z5f.l0,if_neg (by rw[h1];simp[hi]),hasB_nil];rfl
 | cons b suf ih =>
  intro pre i h1 hi;have hlen:l.length=pre.length+(suf.length+1):=by rw[h1];simp
  have hb:(Z5p.f b>>=fun t2967=>if t2967=true then(if(decide (b.f0≤t))=true then(some (decide (t≤b.f1))) else(some false)) else(some false))=some (decide (Z5n b∧b.f0≤t∧t≤b.f1)):=by
   rw[refRight,sb];by_cases h1:Z5n b
   ·by_cases h2:b.f0≤t<;>simp[h1,h2]
   ·simp[h1]
  rw[Z5f.l0,if_pos (by simp;omega),Z06 h1 hi,sb,hb,sb,Zc (n:=i+1) (by omega) (by omega),hasB_cons];by_cases hc:Z5n b∧b.f0≤t∧t≤b.f1
  ·rw[if_pos (decide_eq_true hc),if_pos (by rw[decide_eq_true hc];rfl)]
  ·rw[if_neg (by rw[decide_eq_true_eq];exact hc),ih (pre++[b]) (i+1) (by simp[h1]) (by simp;omega),decide_eq_false hc,Bool.false_or]
theorem refHas (l:List Z1) (t:Int) (hl:l.length<1000000000):Z5f.f l t=some (hasB l t):=by
 unfold Z5f.f;rw[refHas_l0 l t hl l [] 0 rfl rfl,sb];cases hasB l t<;>rfl
def layB:Int→List Z1→List Bool
 | _,[]=>[]
 | last,r::l=>cnt2 (r.f0-last).toNat++(cnt2 (r.f1-r.f0).toNat++layB (r.f1+2) l)
def Zc5 (last:Int) (l:List Z1):Prop:=0≤last∧last≤1099511627778∧Z7p l∧∀ r∈l,last≤r.f0
theorem Zc5.next {last:Int} {r:Z1} {l:List Z1} (h:Zc5 last (r::l)):Zc5 (r.f1+2) l :=
 ⟨by have:=h.2.2.1.head;omega,by have:=h.2.2.1.head;omega,h.2.2.1.tail,fun x hx=>by have:=(List.pairwise_cons.1 h.2.2.1.gap).1 x hx;omega⟩
theorem layB_len:∀ (l:List Z1) (last:Int),(layB last l).length≤142*l.length
 | [],_=>by simp[layB]
 | r::l,last=>by
  have:=layB_len l (r.f1+2);have:=Z12 (r.f0-last).toNat;have:=Z12 (r.f1-r.f0).toNat;simp only[layB,List.length_append,List.length_cons];omega
theorem take_l0 {b:List Int} (hb:Src b) (t:Int×Int×Int) (x:List Z1) (hx:x.length<1000000) (ht:t.1=(x.length:Int)) (z:List Bool):∀ (suf pre:List Z1) (a:Nat) (last i:Int),x=pre++suf→i=(pre.length:Int)→Zc5 last suf→a≤8*b.length →
  (Z0f b).drop a=layB last suf++z→∃ a':Nat,Z2g.l0 b t (a:Int) 0 pre last i=some ((a':Int),0,x)∧a'≤8*b.length∧(Z0f b).drop a'=z:=by
 intro suf
 induction suf with
 | nil =>
  intro pre a last i h1 hi hB ha h;rw[List.append_nil] at h1;subst h1;rw[Z2g.l0,if_neg (by simp;omega),sb,if_neg (by simp)];exact⟨a,rfl,ha,by simpa[layB] using h⟩
 | cons r suf ih =>
  intro pre a last i h1 hi hB ha h;have hlen:x.length=pre.length+(suf.length+1):=by rw[h1];simp
  have hr:=hB.2.2.1.head;have hr2:=hB.2.2.2 r (by simp);have hb1:=hB.1;have hb2:=hB.2.1;rw[layB,List.append_assoc,List.append_assoc] at h;have l1:=congrArg List.length h;simp only[List.length_drop,Z15,List.length_append] at l1;have s1:=Z4b hb (n:=(r.f0-last).toNat) (m:=1099511627776) (by omega) (by omega) ha h;have d1:(Z0f b).drop (a+(cnt2 (r.f0-last).toNat).length)=cnt2 (r.f1-r.f0).toNat++(layB (r.f1+2) suf++z):=by
   rw[← List.drop_drop,h,List.drop_left]
  have s2:=Z4b hb (n:=(r.f1-r.f0).toNat) (m:=1099511627776) (by omega) (by omega) (by omega) d1;have d2:(Z0f b).drop (a+(cnt2 (r.f0-last).toNat).length+(cnt2 (r.f1-r.f0).toNat).length)=layB (r.f1+2) suf++z:=by
   rw[← List.drop_drop,d1,List.drop_left]
  unfold Z2g.l0 Zw.f;rw[if_pos (by simp;omega),sb,sb,if_pos (by simp),show Za.f b (a:Int) 0 1099511627776=_ from s1,sb];dsimp only;rw[show Za.f b ((a+(cnt2 (r.f0-last).toNat).length:Nat):Int) 0 1099511627776=_ from s2,sb];dsimp only;rw[Zc (n:=last+((r.f0-last).toNat:Int)) (by omega) (by omega),Zc (n:=last+((r.f0-last).toNat:Int)+((r.f1-r.f0).toNat:Int)) (by omega) (by omega),if_neg (by simp;omega),sb];dsimp only;have er:(⟨last+((r.f0-last).toNat:Int),last+((r.f0-last).toNat:Int)+((r.f1-r.f0).toNat:Int)⟩:Z1)=r:=by
   have e0:last+((r.f0-last).toNat:Int)=r.f0:=by omega
   have e1:r.f0+((r.f1-r.f0).toNat:Int)=r.f1:=by omega
   rw[e0,e1]
  rw[er,chkB (by simp;omega),show last+((r.f0-last).toNat:Int)+((r.f1-r.f0).toNat:Int)=r.f1 by omega,Zc (n:=r.f1+2) (by omega) (by omega),Zc (n:=i+1) (by omega) (by omega)];exact ih (pre++[r]) _ (r.f1+2) (i+1) (by simp[h1]) (by simp;omega) hB.next (by omega) d2
theorem lay9_l0 (l:List Z1) (hl:l.length<1000000):∀ (suf pre:List Z1) (b:List Int) (f:Nat) (s:List Bool) (last i:Int),l=pre++suf→i=(pre.length:Int)→Zc5 last suf→s.length+142*suf.length<700000000000→Laid b f s →
  ∃ (b':List Int) (f':Nat),Z1t.l0 ⟨l⟩ b (f:Int) last i=some (b',(f':Int))∧Laid b' f' (s++layB last suf):=by
 intro suf
 induction suf with
 | nil =>
  intro pre b f s last i h1 hi hB hs h;rw[Z1t.l0,if_neg (by rw[h1];simp[hi])];exact⟨b,f,rfl,by simpa[layB] using h⟩
 | cons r suf ih =>
  intro pre b f s last i h1 hi hB hs h;have hlen:l.length=pre.length+(suf.length+1):=by rw[h1];simp
  have hr:=hB.2.2.1.head;have hr2:=hB.2.2.2 r (by simp);have hb1:=hB.1;have hb2:=hB.2.1;have hc1:=Z12 (r.f0-last).toNat;have hc2:=Z12 (r.f1-r.f0).toNat;simp only[List.length_cons] at hs;rw[Z1t.l0,if_pos (by simp;omega),Z06 h1 hi,sb,Zc (n:=r.f0-last) (by omega) (by omega),Zc (n:=r.f1-r.f0) (by omega) (by omega),Z39 (n:=r.f0-last) (by omega) (by omega),Z39 (n:=r.f1-r.f0) (by omega) (by omega),Zc (n:=r.f1+2) (by omega) (by omega),Zc (n:=i+1) (by omega) (by omega)];obtain⟨b1,f1,e1,h1'⟩:=Z6p h (by omega) (n:=r.f0-last) (by omega) (by omega);obtain⟨b2,f2,e2,h2'⟩:=Z6p h1' (by simp;omega) (n:=r.f1-r.f0) (by omega) (by omega);rw[e1,sb];dsimp only;rw[e2,sb];obtain⟨b3,f3,e3,h3'⟩:=ih (pre++[r]) b2 f2 _ (r.f1+2) (i+1) (by simp[h1]) (by simp;omega) hB.next (by simp;omega) h2'
  exact⟨b3,f3,e3,by rw[layB];simpa using h3'⟩
theorem lay9_eq {b:List Int} {f:Nat} {s:List Bool} (hL:Laid b f s) (hs:s.length<600000000000) (l:List Z1) (hl:l.length<1000000) (h:Z7p l):∃ (b':List Int) (f':Nat),Z1t.f ⟨l⟩ b (f:Int)=some (b',(f':Int))∧Laid b' f' (s++(cnt2 l.length++layB 0 l)):=by
 have hc:=Z12 l.length;have hB:Zc5 0 l:=⟨by omega,by omega,h,fun r hr=>(h.right r hr).1⟩
 unfold Z1t.f;dsimp only;rw[Z39 (by omega) (by omega)];obtain⟨b1,f1,e1,h1⟩:=Z6p (n:=(l.length:Int)) hL (by omega) (by omega) (by omega);rw[e1,sb];dsimp only;rw[Int.toNat_natCast] at h1;obtain⟨b2,f2,e2,h2⟩:=lay9_l0 l hl l [] b1 f1 _ 0 0 rfl rfl hB (by rw[List.length_append];omega) h1;rw[e2,sb];exact⟨b2,f2,rfl,by rw[← List.append_assoc];exact h2⟩
theorem take_at {b:List Int} (hb:Src b) (x:List Z1) {m:Nat} (hm:m<1000000) (hx:x.length≤m) (h:Z7p x) {a:Nat} (ha:a≤8*b.length) (z:List Bool) (hd:(Z0f b).drop a=(cnt2 x.length++layB 0 x)++z) :
  Z2g.f b (a:Int) 0 (m:Int)=some (⟨x⟩,((a+(cnt2 x.length++layB 0 x).length:Nat):Int),0):=by
 have hB:Zc5 0 x:=⟨by omega,by omega,h,fun r hr=>(h.right r hr).1⟩
 have l1:=congrArg List.length hd;simp only[List.length_drop,Z15,List.length_append] at l1;have hd1:(Z0f b).drop a=cnt2 x.length++(layB 0 x++z):=by rw[hd,List.append_assoc]
 have hd2:(Z0f b).drop (a+(cnt2 x.length).length)=layB 0 x++z:=by rw[← List.drop_drop,hd1,List.drop_left' rfl]
 have s1:=Z4b hb (n:=x.length) (m:=m) hx (by omega) ha hd1;unfold Z2g.f Zw.f;rw[s1,sb];dsimp only;obtain⟨a',e,h1,h2⟩:=take_l0 hb ((x.length:Int),((a+(cnt2 x.length).length:Nat):Int),0) x (by omega) rfl z x [] (a+(cnt2 x.length).length) 0 0 rfl rfl hB (by omega) hd2;rw[e,sb];dsimp only;rw[sb,if_neg (by simp)];have l2:=congrArg List.length h2;simp only[List.length_drop,Z15] at l2;congr 4;rw[List.length_append];omega
end Go.Proofs.YtinhldbfifpakaaGreat.PvGL3
