import Derived.Test.YtinhldbfifpakaaGreatPxEntryReads18
set_option linter.unusedVariables false
set_option linter.unusedSimpArgs false
namespace Go.Proofs.YtinhldbfifpakaaGreat.PvGL2
open Go Go.Pv Go.Pv.GS Go.IntKind
abbrev Z5k (r:Zc):Prop:=0≤r.f0∧r.f0≤r.f1∧r.f1≤1099511627776
def HasL (l:List Zc) (t:Int):Prop:=∃ r∈l,Z5k r∧r.f0≤t∧t≤r.f1
structure Z6l (l:List Zc):Prop where
 right:∀ r∈l,Z5k r
 gap:l.Pairwise (fun a b=>a.f1+1<b.f0)
theorem hasL_nil (t:Int):¬ HasL [] t:=by rintro⟨r,h,_⟩;simp at h
theorem hasL_cons (r:Zc) (l:List Zc) (t:Int):HasL (r::l) t↔(Z5k r∧r.f0≤t∧t≤r.f1)∨HasL l t:=by
 unfold HasL;simp
theorem Z6l.nil:Z6l []:=⟨by simp,List.Pairwise.nil⟩
theorem Z6l.tail {x:Zc} {l:List Zc} (h:Z6l (x::l)):Z6l l:=⟨fun r hr=>h.right r (by simp[hr]),(List.pairwise_cons.1 h.gap).2⟩
theorem Z6l.head {x:Zc} {l:List Zc} (h:Z6l (x::l)):Z5k x:=h.right x (by simp)
theorem apart_snoc {l:List Zc} {x:Zc} (h:Z6l l) (hx:Z5k x) (hg:∀ r∈l,r.f1+1<x.f0):Z6l (l++[x]) :=
 ⟨fun r hr => by rcases List.mem_append.1 hr with hr | hr; exact h.right r hr; simp at hr; rw [hr]; exact hx,
  List.pairwise_append.2 ⟨h.gap,List.pairwise_singleton _ _,fun a ha b hb=>by simp at hb;rw[hb];exact hg a ha⟩⟩
end Go.Proofs.YtinhldbfifpakaaGreat.PvGL2
set_option linter.unusedVariables false
set_option linter.unusedSimpArgs false
namespace Go.Proofs.YtinhldbfifpakaaGreat.PvGL2
open Go Go.Pv Go.Pv.GS Go.IntKind
theorem compare_i64 (a b:Int):Z3n.f a b=some (if a<b then -1 else if a>b then 1 else 0):=by
 unfold Z3n.f Z3r.f
 by_cases h1:a<b
 ·simp[h1]
 ·by_cases h2:b<a
  ·simp[h1,h2]
  ·simp[h1,h2]
theorem clone_r (l:List Zc) (h:l.length<1000000000):Z2a.f l=some l:=by
 unfold Z2a.f;rw[chkB (by simp;omega)]
structure OfI (pre out:List Zc):Prop where
 apart:Z6l out
 has:∀ t,HasL out t↔HasL pre t
 seen:∀ o∈out,∃ p∈pre,p.f0=o.f0
 len:out.length≤pre.length
theorem ranges_eq (s:Z35) (h:s.f0.length<1000000000):Z0o.f s=some s.f0:=by
 unfold Z0o.f;rw[clone_r _ h,sb]
theorem has_eq (l:List Zc) (hl:l.length<1000000000) (h:Z6l l) (t:Int):∃ b,Z4s.f ⟨l⟩ t=some b∧(b=true↔HasL l t):=by
 unfold Z4s.f
 have hi:Zm.f=binF.f Z36.f:=by kernel_rfl
 have hc:∀ x,Z36.f x t=some (if x.f0<t then -1 else if x.f0>t then 1 else 0):=fun x=>by
  unfold Z36.f;rw[compare_i64,sb]
 have hlt:∀ i j (x y:Zc),i<j→l[i]? = some x→l[j]? = some y→x.f1+1<y.f0:=fun i j x y hij hx hy=>by
  obtain⟨hi',ex⟩:=List.getElem?_eq_some_iff.1 hx
  obtain⟨hj',ey⟩:=List.getElem?_eq_some_iff.1 hy
  have:=List.pairwise_iff_getElem.1 h.gap i j hi' hj' hij
  rw[ex,ey] at this;exact this
 have hR:∀ i (x:Zc),l[i]? = some x→Z5k x:=fun i x hx=>h.right x (List.mem_of_getElem? hx)
 obtain⟨k,fb,hk,hfb,e⟩:=binF_eq hc l hl (fun i j x y hij hx hy hneg=>by
  have hyt:y.f0<t:=by
   by_cases q:y.f0<t
   ·exact q
   ·rw[if_neg q] at hneg;split at hneg<;>omega
  have:x.f0<t:=by
   by_cases q:i=j
   ·subst q;rw[hx] at hy;simp at hy;subst hy;exact hyt
   ·have:=hlt i j x y (by omega) hx hy
    have:=hR i x hx
    omega
  rw[if_pos this];omega)
 have hlo:∀ m x,m<k→l[m]? = some x→x.f0<t:=fun m x hm hx=>by
  have:=hk.lo m x hm hx
  by_cases q:x.f0<t
  ·exact q
  ·rw[if_neg q] at this;split at this<;>omega
 have hhi:∀ m x,k≤m→l[m]? = some x→t≤x.f0:=fun m x hm hx=>by
  have:=hk.hi m x hm hx
  by_cases q:x.f0<t
  ·rw[if_pos q] at this;omega
  ·omega
 rw[hi,e,sb]
 have main:∀ (m:Nat) (x:Zc),l[m]? = some x→Z5k x∧x.f0≤t∧t≤x.f1→(∃ y,l[k]? = some y∧y.f0=t)∨(0<k∧∃ y,l[k-1]? = some y∧t≤y.f1):=fun m x hx q=>by
  have hml:=(List.getElem?_eq_some_iff.1 hx).1
  by_cases hm:m<k
  ·right
   refine⟨by omega,?_⟩
   by_cases hm1:m=k-1
   ·exact⟨x,hm1 ▸ hx,q.2.2⟩
   ·have hk1:k-1<l.length:=by have:=hk.le;omega
    have a:=hlo (k-1) _ (by omega) (List.getElem?_eq_getElem hk1)
    have b:=hlt m (k-1) x _ (by omega) hx (List.getElem?_eq_getElem hk1)
    omega
  ·left
   have hkl:k<l.length:=by omega
   refine⟨l[k],List.getElem?_eq_getElem hkl,?_⟩
   have a:=hhi k _ (by omega) (List.getElem?_eq_getElem hkl)
   by_cases hmk:m=k
   ·subst hmk;rw[List.getElem?_eq_getElem hkl] at hx;simp at hx;rw[hx] at a ⊢;omega
   ·have b:=hlt k m _ x (by omega) (List.getElem?_eq_getElem hkl) hx
    have c:=hR k _ (List.getElem?_eq_getElem hkl)
    omega
 have main':HasL l t→(∃ y,l[k]? = some y∧y.f0=t)∨(0<k∧∃ y,l[k-1]? = some y∧t≤y.f1):=fun⟨r,hr,q⟩=>by
  obtain⟨m,hm⟩:=List.getElem?_of_mem hr
  exact main m r hm q
 have hz:∀ y:Zc,(if y.f0<t then(-1:Int) else if y.f0>t then 1 else 0)=0↔y.f0=t:=fun y=>by
  by_cases q:y.f0<t
  ·rw[if_pos q];omega
  ·by_cases q2:y.f0>t
   ·rw[if_neg q,if_pos q2];omega
   ·rw[if_neg q,if_neg q2];omega
 simp only[hz] at hfb
 dsimp only
 by_cases hf:∃ y,l[k]? = some y∧y.f0=t
 ·rw[if_pos (hfb.2 hf),sb]
  obtain⟨y,hy,hyt⟩:=hf
  refine⟨true,rfl,by simp;exact⟨y,List.mem_of_getElem? hy,hR k y hy,by omega,by have:=(hR k y hy).2.1;omega⟩⟩
 ·rw[if_neg (fun q=>hf (hfb.1 q))]
  by_cases hk0:0<k
  ·have hk1:k-1<l.length:=by have:=hk.le;omega
   have hy:=List.getElem?_eq_getElem hk1
   rw[if_pos (by simpa using hk0),Za (by have:=hk.le;omega) (by have:=hk.le;omega),Z5y (k:=k-1) (by omega) hy,sb,sb]
   refine⟨_,rfl,?_⟩
   simp only[decide_eq_true_eq]
   constructor
   ·intro q
    exact⟨_,List.mem_of_getElem? hy,hR _ _ hy,by have:=hlo (k-1) _ (by omega) hy;omega,q⟩
   ·intro q
    rcases main' q with q | ⟨_,y,hy',q⟩
    ·exact absurd q hf
    ·rw[hy] at hy';simp at hy';rw[hy'];exact q
  ·rw[if_neg (by simpa using hk0),sb]
   refine ⟨false, rfl, by simp; intro q; rcases main' q with q | q
                          ·exact hf q
                          ·omega⟩
end Go.Proofs.YtinhldbfifpakaaGreat.PvGL2
set_option linter.unusedVariables false
set_option linter.unusedSimpArgs false
namespace Go.Proofs.YtinhldbfifpakaaGreat.PvGL2
open Go Go.Pv Go.Pv.GS Go.IntKind
open Classical in
noncomputable def hasB (l:List Zc) (t:Int):Bool:=decide (HasL l t)
theorem Zd0 (l:List Zc) (t:Int):hasB l t=true↔HasL l t:=by simp[hasB]
theorem hasB_eq (l:List Zc) (hl:l.length<1000000000) (h:Z6l l) (t:Int):Z4s.f ⟨l⟩ t=some (hasB l t):=by
 obtain⟨b,e,hb⟩:=has_eq l hl h t
 rw[e,show b=hasB l t from Bool.eq_iff_iff.2 (hb.trans (Zd0 l t).symm)]
theorem hasB_nil (t:Int):hasB [] t=false:=by
 cases e:hasB [] t with
 | false=>rfl
 | true=>exact absurd ((Zd0 _ _).1 e) (hasL_nil t)
noncomputable abbrev kept (x:List Zc) (l:List Z7):List Z7:=l.filter (fun s => !hasB x s.f0)
theorem keep_inst (l:List Z7) (c:List Zc):Zp.f l c=deleteF.f (fun x=>Z28.f x c) (⟨0,(⟨0,0,0,0,0,0,[],[]⟩:Zg)⟩:Z7) l:=by kernel_rfl
theorem t_keep_eq (x:List Zc) (hx:x.length<1000000000) (h:Z6l x) (l:List Z7) (hl:l.length<1000000000):Z2p.f ⟨x⟩ l=some (kept x l):=by
 unfold Z2p.f Z16.f
 rw[chkB (by simp;omega),sb,keep_inst,deleteF_eq (p:=fun s=>hasB x s.f0) (fun s=>by unfold Z28.f;rw[hasB_eq x hx h,sb]) _ _ (by omega),sb]
end Go.Proofs.YtinhldbfifpakaaGreat.PvGL2
set_option linter.unusedVariables false
set_option linter.unusedSimpArgs false
namespace Go.Proofs.YtinhldbfifpakaaGreat.PvGL2
open Go Go.Pv Go.Pv.GS Go.IntKind
theorem refRight (r:Zc):Z38.f r=some (decide (Z5k r)):=by
 unfold Z38.f
 by_cases h1:0≤r.f0
 ·by_cases h2:r.f0≤r.f1<;>simp[h1,h2,Z5k]
 ·simp[h1,Z5k]
theorem hasB_cons (x:Zc) (l:List Zc) (t:Int):hasB (x::l) t=(decide (Z5k x∧x.f0≤t∧t≤x.f1)||hasB l t):=by
 rw[Bool.eq_iff_iff,Zd0,hasL_cons,Bool.or_eq_true,Zd0];simp
theorem refHas_l0 (l:List Zc) (t:Int) (hl:l.length<1000000000):∀ (suf pre:List Zc) (i:Int),l=pre++suf→i=(pre.length:Int) →
  Z53.l0 l t i=some (if hasB suf t=true then .inl true else .inr ()):=by
 intro suf
 induction suf with
 | nil=>intro pre i h1 hi;rw[Z53.l0,if_neg (by rw[h1];simp[hi]),hasB_nil];rfl
 | cons b suf ih =>
  intro pre i h1 hi
  have hlen:l.length=pre.length+(suf.length+1):=by rw[h1];simp
  have hb:(Z38.f b>>=fun t2967=>if t2967=true then(if(decide (b.f0≤t))=true then(some (decide (t≤b.f1))) else(some false)) else(some false))=some (decide (Z5k b∧b.f0≤t∧t≤b.f1)):=by
   rw[refRight,sb]
   by_cases h1:Z5k b
   ·by_cases h2:b.f0≤t<;>simp[h1,h2]
   ·simp[h1]
  rw[Z53.l0,if_pos (by simp;omega),Z03 h1 hi,sb,hb,sb,Za (n:=i+1) (by omega) (by omega),hasB_cons]
  by_cases hc:Z5k b∧b.f0≤t∧t≤b.f1
  ·rw[if_pos (decide_eq_true hc),if_pos (by rw[decide_eq_true hc];rfl)]
  ·rw[if_neg (by rw[decide_eq_true_eq];exact hc),ih (pre++[b]) (i+1) (by simp[h1]) (by simp;omega),decide_eq_false hc,Bool.false_or]
theorem refHas (l:List Zc) (t:Int) (hl:l.length<1000000000):Z53.f l t=some (hasB l t):=by
 unfold Z53.f
 rw[refHas_l0 l t hl l [] 0 rfl rfl,sb]
 cases hasB l t<;>rfl
end Go.Proofs.YtinhldbfifpakaaGreat.PvGL2
set_option linter.unusedVariables false
set_option linter.unusedSimpArgs false
namespace Go.Proofs.YtinhldbfifpakaaGreat.PvGL2
open Go Go.Pv Go.Pv.GS Go.IntKind
def layB:Int→List Zc→List Bool
 | _,[]=>[]
 | last,r::l=>cnt2 (r.f0-last).toNat++(cnt2 (r.f1-r.f0).toNat++layB (r.f1+2) l)
def Zel (last:Int) (l:List Zc):Prop:=0≤last∧last≤1099511627778∧Z6l l∧∀ r∈l,last≤r.f0
theorem Zel.next {last:Int} {r:Zc} {l:List Zc} (h:Zel last (r::l)):Zel (r.f1+2) l :=
 ⟨by have:=h.2.2.1.head;omega,by have:=h.2.2.1.head;omega,h.2.2.1.tail,fun x hx=>by have:=(List.pairwise_cons.1 h.2.2.1.gap).1 x hx;omega⟩
theorem Zcz:∀ (l:List Zc) (last:Int),(layB last l).length≤142*l.length
 | [],_=>by simp[layB]
 | r::l,last=>by
  have:=Zcz l (r.f1+2)
  have:=Z0e (r.f0-last).toNat
  have:=Z0e (r.f1-r.f0).toNat
  simp only[layB,List.length_append,List.length_cons];omega
theorem take_rev_l0 {b:List Int} (hb:Src b) (t:Int×Int×Int) (n:Nat) (hn:n<1000000) (ht:t.1=(n:Int)):∀ (m:Nat) (pre:List Zc) (a:Nat) (last i:Int),pre.length+m=n→i=(pre.length:Int)→0≤last→last≤1099511627778→Z6l pre→(∀ r∈pre,r.f1+2≤last)→a≤8*b.length →
  ∃ (a':Nat) (e:Int) (l:List Zc),Z0u.l0 b t (a:Int) 0 pre last i=some ((a':Int),e,l)∧a'≤8*b.length∧(e≠0∨(e=0∧l.length=n∧Z6l l∧∃ suf,l=pre++suf∧(Z0c b).drop a=layB last suf++(Z0c b).drop a')):=by
 intro m
 induction m with
 | zero =>
  intro pre a last i hp hi h0 h1 hA hg ha
  rw[Z0u.l0,if_neg (by simp;omega),sb,if_neg (by simp)]
  exact⟨a,0,pre,rfl,ha,.inr ⟨rfl,by omega,hA,[],by simp,by simp[layB]⟩⟩
 | succ m ih =>
  intro pre a last i hp hi h0 h1 hA hg ha
  obtain⟨d1,a1,e1,s1,k1,k2,k3⟩:=Z63 hb (m:=1099511627776) (by omega) ha
  have stop:∀ (a2:Nat) (e2:Int) (l:List Zc) (la:Int) (i':Int),a2≤8*b.length→e2≠0→∃ (a':Nat) (e:Int) (l':List Zc),Z0u.l0 b t (a2:Int) e2 l la i'=some ((a':Int),e,l')∧a'≤8*b.length∧(e≠0∨(e=0∧l'.length=n∧Z6l l'∧∃ suf,l'=pre++suf∧(Z0c b).drop a=layB last suf++(Z0c b).drop a')):=fun a2 e2 l la i' q1 q2=>by
   unfold Z0u.l0 Zk.f
   have:((if(decide (i'<t.1))=true then((some ():Option Unit)>>=fun t3891=>some (e2==(0:Int))) else(some false)):Option (Bool))=some false:=by
    split
    ·rw[sb];simp[q2]
    ·rfl
   rw[this,sb,if_neg (by simp)]
   exact⟨a2,e2,l,rfl,q1,.inl q2⟩
  unfold Z0u.l0 Zk.f
  rw[if_pos (by simp;omega),sb,sb,if_pos (by simp),show Z3.f b (a:Int) 0 1099511627776=_ from s1,sb]
  dsimp only
  have hroom:∀ r:Zc,(pre.length+[r].length)*16≤140737488355328:=fun r=>by simp;omega
  rcases k3 with ⟨rfl,k3⟩ | ⟨k3,rfl⟩
  case inr =>
   rw[Z70 k3,sb]
   dsimp only
   have w1:i64.wrap (last+((0:Nat):Int))=last:=by rw[Za (by omega) (by omega)];simp
   have w2:i64.wrap (last+0)=last:=by rw[Za (by omega) (by omega)];simp
   rw[w1,w2]
   by_cases hlt:last>1099511627776
   ·rw[if_pos (by simpa using hlt),Z70       k3,sb,sb]
    dsimp only
    rw[chkB (hroom _)]
    exact stop a1 e1 _ _ _ k1 k3
   ·rw[if_neg (by simpa using hlt),sb]
    dsimp only
    rw[chkB (hroom _)]
    exact stop a1 e1 _ _ _ k1 k3
  obtain⟨d2,a2,e2,s2,j1,j2,j3⟩:=Z63 hb (m:=1099511627776) (by omega) k1
  rw[show Z3.f b (a1:Int) 0 1099511627776=_ from s2,sb]
  dsimp only
  rw[Za (n:=last+(d1:Int)) (by omega) (by omega),Za (n:=last+(d1:Int)+(d2:Int)) (by omega) (by omega)]
  by_cases he2:e2=0
  case neg =>
   by_cases hlt:last+(d1:Int)+(d2:Int)>1099511627776
   ·rw[if_pos (by simpa using hlt),Z70       he2,sb,sb]
    dsimp only
    rw[chkB (hroom _)]
    exact stop a2 e2 _ _ _ j1 he2
   ·rw[if_neg (by simpa using hlt),sb]
    dsimp only
    rw[chkB (hroom _)]
    exact stop a2 e2 _ _ _ j1 he2
  subst he2
  rcases j3 with ⟨_,j3⟩ | ⟨j3,_⟩
  case inr=>exact absurd rfl j3
  by_cases hlt:last+(d1:Int)+(d2:Int)>1099511627776
  ·obtain⟨a3,e3,s3,q1,q2⟩:=small_neg hb j1
   rw[if_pos (by simpa using hlt),s3,sb,sb]
   dsimp only
   rw[chkB (hroom _)]
   exact stop a3 e3 _ _ _ q1 q2
  ·rw[if_neg (by simpa using hlt),sb]
   dsimp only
   rw[chkB (hroom _),Za (n:=last+(d1:Int)+(d2:Int)+2) (by omega) (by omega),Za (n:=i+1) (by omega) (by omega)]
   have hA':Z6l (pre++[(⟨last+(d1:Int),last+(d1:Int)+(d2:Int)⟩:Zc)]):=apart_snoc hA ⟨by show 0≤last+(d1:Int);omega,by show last+(d1:Int)≤last+(d1:Int)+(d2:Int);omega,by show last+(d1:Int)+(d2:Int)≤1099511627776;omega⟩ (fun r hr=>by have:=hg r hr;show r.f1+1<last+(d1:Int);omega)
   obtain⟨a',e,l,g1,g2,g3⟩:=ih (pre++[(⟨last+(d1:Int),last+(d1:Int)+(d2:Int)⟩:Zc)]) a2 (last+(d1:Int)+(d2:Int)+2) (i+1) (by simp;omega) (by simp;omega) (by omega) (by omega) hA' (fun r hr=>by
    rcases List.mem_append.1 hr with hr | hr
    ·have:=hg r hr;omega
    ·simp at hr;subst hr;show last+(d1:Int)+(d2:Int)+2≤_;omega) j1
   refine⟨a',e,l,g1,g2,?_⟩
   rcases g3 with g3 | ⟨g3,g4,g5,suf,g6,g7⟩
   ·exact .inl g3
   ·refine .inr ⟨g3,g4,g5,(⟨last+(d1:Int),last+(d1:Int)+(d2:Int)⟩:Zc         )::suf,by rw[g6];simp,?_⟩
    rw[k3,j3,g7,layB]
    show _=cnt2 (last+(d1:Int)-last).toNat++(cnt2 (last+(d1:Int)+(d2:Int)-(last+(d1:Int))).toNat++layB (last+(d1:Int)+(d2:Int)+2) suf)++_
    rw[show(last+(d1:Int)-last).toNat=d1 by omega,show(last+(d1:Int)+(d2:Int)-(last+(d1:Int))).toNat=d2 by omega]
    simp
end Go.Proofs.YtinhldbfifpakaaGreat.PvGL2
set_option linter.unusedVariables false
set_option linter.unusedSimpArgs false
set_option maxRecDepth 10000
namespace Go.Proofs.YtinhldbfifpakaaGreat.PvGL2
open Go Go.Pv Go.Pv.GS Go.IntKind
theorem lay9_l0 (l:List Zc) (hl:l.length<1000000):∀ (suf pre:List Zc) (b:List Int) (f:Nat) (s:List Bool) (last i:Int),l=pre++suf→i=(pre.length:Int)→Zel last suf→s.length+142*suf.length<700000000000→Laid b f s →
  ∃ (b':List Int) (f':Nat),Z1e.l0 ⟨l⟩ b (f:Int) last i=some (b',(f':Int))∧Laid b' f' (s++layB last suf):=by
 intro suf
 induction suf with
 | nil =>
  intro pre b f s last i h1 hi hB hs h
  rw[Z1e.l0,if_neg (by rw[h1];simp[hi])]
  exact⟨b,f,rfl,by simpa[layB] using h⟩
 | cons r suf ih =>
  intro pre b f s last i h1 hi hB hs h
  have hlen:l.length=pre.length+(suf.length+1):=by rw[h1];simp
  have hr:=hB.2.2.1.head
  have hr2:=hB.2.2.2 r (by simp)
  have hb1:=hB.1
  have hb2:=hB.2.1
  have hc1:=Z0e (r.f0-last).toNat
  have hc2:=Z0e (r.f1-r.f0).toNat
  simp only[List.length_cons] at hs
  rw[Z1e.l0,if_pos (by simp;omega),Z03 h1 hi,sb,Za (n:=r.f0-last) (by omega) (by omega),Za (n:=r.f1-r.f0) (by omega) (by omega),Z31 (n:=r.f0-last) (by omega) (by omega),Z31 (n:=r.f1-r.f0) (by omega) (by omega),Za (n:=r.f1+2) (by omega) (by omega),Za (n:=i+1) (by omega) (by omega)]
  obtain⟨b1,f1,e1,h1'⟩:=Z6b h (by omega) (n:=r.f0-last) (by omega) (by omega)
  obtain⟨b2,f2,e2,h2'⟩:=Z6b h1' (by simp;omega) (n:=r.f1-r.f0) (by omega) (by omega)
  rw[e1,sb]
  dsimp only
  rw[e2,sb]
  obtain⟨b3,f3,e3,h3'⟩:=ih (pre++[r]) b2 f2 _ (r.f1+2) (i+1) (by simp[h1]) (by simp;omega) hB.next (by simp;omega) h2'
  exact⟨b3,f3,e3,by rw[layB];simpa using h3'⟩
theorem lay9_eq {b:List Int} {f:Nat} {s:List Bool} (hL:Laid b f s) (hs:s.length<600000000000) (l:List Zc) (hl:l.length<1000000) (h:Z6l l):∃ (b':List Int) (f':Nat),Z1e.f ⟨l⟩ b (f:Int)=some (b',(f':Int))∧Laid b' f' (s++(cnt2 l.length++layB 0 l)):=by
 have hc:=Z0e l.length
 have hB:Zel 0 l:=⟨by omega,by omega,h,fun r hr=>(h.right r hr).1⟩
 unfold Z1e.f
 dsimp only
 rw[Z31 (by omega) (by omega)]
 obtain⟨b1,f1,e1,h1⟩:=Z6b (n:=(l.length:Int)) hL (by omega) (by omega) (by omega)
 rw[e1,sb]
 dsimp only
 rw[Int.toNat_natCast] at h1
 obtain⟨b2,f2,e2,h2⟩:=lay9_l0 l hl l [] b1 f1 _ 0 0 rfl rfl hB (by rw[List.length_append];omega) h1
 rw[e2,sb]
 exact⟨b2,f2,rfl,by rw[← List.append_assoc];exact h2⟩
theorem take_any {b:List Int} (hb:Src b) {m:Nat} (hm:m<1000000) {a:Nat} (ha:a≤8*b.length) (e:Int):∃ (z:List Zc) (a1:Nat) (e1:Int),Z0u.f b (a:Int) e (m:Int)=some (⟨z⟩,(a1:Int),e1)∧a1≤8*b.length∧(e≠0→e1≠0)∧((e1≠0∧z=[])∨(e1=0∧z.length≤m∧Z6l z∧(Z0c b).drop a=cnt2 z.length++layB 0 z++(Z0c b).drop a1)):=by
 unfold Z0u.f
 have bad:∀ (a1:Nat) (e1:Int),e1≠0→(Z0u.l0 b (0,(a1:Int),e1) (a1:Int) e1 [] 0 0>>=fun oo=>match oo with | (x6418,x6419,x6420)=>((Zk.f b x6418 x6419)>>=fun t6423=>if(x6419 != (0:Int))=true then(some ((⟨[]⟩:Z35),x6418,x6419)) else(some ((⟨x6420⟩:Z35),x6418,x6419))))=some (⟨[]⟩,(a1:Int),e1):=by
  intro a1 e1 he
  unfold Z0u.l0 Zk.f
  rw[if_neg (by simp),sb,if_neg (by simp),sb]
  dsimp only
  rw[sb,if_pos (by simpa using he)]
 by_cases h0:e=0
 case neg =>
  rw[Z70 h0,sb]
  exact⟨[],a,e,bad a e h0,ha,fun h=>h,.inl ⟨h0,rfl⟩⟩
 subst h0
 obtain⟨n,a1,e1,s1,k1,k2,k3⟩:=Z63 hb (m:=m) (by omega) ha
 rw[s1,sb]
 dsimp only
 by_cases he:e1=0
 case neg =>
  rcases k3 with ⟨k3,_⟩ | ⟨_,rfl⟩
  ·exact absurd k3 he
  exact⟨[],a1,e1,bad a1 e1 he,k1,fun _=>he,.inl ⟨he,rfl⟩⟩
 subst he
 rcases k3 with ⟨_,k3⟩ | ⟨k3,_⟩
 case inr=>exact absurd rfl k3
 obtain⟨a',e,l,g1,g2,g3⟩:=take_rev_l0 hb ((n:Int),(a1:Int),0) n (by omega) rfl n [] a1 0 0 (by simp) rfl (by omega) (by omega) Z6l.nil (by simp) k1
 rw[g1,sb]
 unfold Zk.f
 dsimp only
 rw[sb]
 rcases g3 with g3 | ⟨rfl,g4,g5,suf,g6,g7⟩
 ·rw[if_pos (by simpa using g3)]
  exact⟨[],a',e,rfl,g2,fun h=>absurd rfl h,.inl ⟨g3,rfl⟩⟩
 ·rw[if_neg (by simp)]
  rw[List.nil_append] at g6
  subst g6
  refine⟨l,a',0,rfl,g2,fun h=>absurd rfl h,.inr ⟨rfl,by omega,g5,?_⟩⟩
  exact k3.trans (by rw[g7,List.append_assoc,g4])
end Go.Proofs.YtinhldbfifpakaaGreat.PvGL2
