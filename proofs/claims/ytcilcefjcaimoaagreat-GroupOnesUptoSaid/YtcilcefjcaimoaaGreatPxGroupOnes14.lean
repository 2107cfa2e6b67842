import Derived.Test.YtcilcefjcaimoaaGreatPxGroupOnes13
set_option linter.unusedVariables false
set_option linter.unusedSimpArgs false
set_option maxRecDepth 10000
namespace Go.Proofs.YtcilcefjcaimoaaGreat.PvGQ
open Go Go.Pv Go.Pv.GS Go.IntKind
theorem bl_trans' {a b c:ByteArray} (h1:bl a b=true) (h2:bl b c=true):bl a c=true:=Zav _ _ _ h1 h2
theorem lessL_trans {x y z:Zo} (h1:Z5a x y=true) (h2:Z5a y z=true):Z5a x z=true:=by
 simp only[Z5a,Bool.or_eq_true,Bool.and_eq_true,decide_eq_true_eq] at h1 h2 ⊢;rcases h1 with h1 | ⟨e1,h1⟩<;>rcases h2 with h2 | ⟨e2,h2⟩
 ·exact .inl (bl_trans' h1 h2)
 ·exact .inl (e2 ▸ h1)
 ·exact .inl (e1 ▸ h2)
 ·exact .inr ⟨e1.trans e2,bl_trans' h1 h2⟩
theorem Z9u:∀ a b c,cmpL a b<0→cmpL b c<0→cmpL a c<0
 | [],[],c,h,_=>by simp[cmpL] at h
 | [],_::_,[],_,h=>by simp[cmpL] at h
 | [],_::_,_::_,_,_=>by simp[cmpL]
 | _::_,[],_,h,_=>by simp[cmpL] at h
 | _::_,_::_,[],_,h=>by simp[cmpL] at h
 | x::a,y::b,z::c,h1,h2=>by
  rw[cmpL] at h1 h2 ⊢;by_cases e1:x=y
  ·subst e1
   rw[if_pos rfl] at h1;by_cases e2:x=z
   ·subst e2
    rw[if_pos rfl] at h2 ⊢;exact Z9u a b c h1 h2
   ·rw[if_neg e2] at h2 ⊢;exact h2
  ·rw[if_neg e1] at h1
   have l1:Z5a x y=true:=by
    cases e:Z5a x y with
    | true=>rfl
    | false=>rw[e] at h1;simp at h1
   by_cases e2:y=z
   ·subst e2
    rw[if_neg e1];simp[l1]
   ·rw[if_neg e2] at h2
    have l2:Z5a y z=true:=by
     cases e:Z5a y z with
     | true=>rfl
     | false=>rw[e] at h2;simp at h2
    have l3:=lessL_trans l1 l2;have:x≠z:=fun e=>by subst e;rw[Za8] at l3;exact absurd l3 (by simp)
    rw[if_neg this,l3];simp
theorem Z6a (a:List Zo):cmpL a a=0:=(Z94 a a).2 rfl
abbrev UpK (ks:List (List Zo)):Prop:=ks.Pairwise (fun a b=>cmpL a b<0)
theorem Z9f:∀ (a b:List (List Zo)),UpK a→UpK b→(∀ k,k∈a↔k∈b)→a=b
 | [],[],_,_,_=>rfl
 | [],y::b,_,_,h=>by have:=(h y).2 (by simp);simp at this
 | x::a,[],_,_,h=>by have:=(h x).1 (by simp);simp at this
 | x::a,y::b,ha,hb,h=>by
  obtain⟨a1,a2⟩:=List.pairwise_cons.1 ha;obtain⟨b1,b2⟩:=List.pairwise_cons.1 hb;have exy:x=y:=by
   rcases List.mem_cons.1 ((h x).1 (by simp)) with e | hx
   ·exact e
   ·rcases List.mem_cons.1 ((h y).2 (by simp)) with e | hy
    ·exact e.symm
    ·have q1:=a1 y hy
     have q2:=b1 x hx;rw[cmpL_neg] at q2;omega
  subst exy;rw[Z9f a b a2 b2 (fun k => ?_)];constructor
  ·intro hk
   rcases List.mem_cons.1 ((h k).1 (by simp[hk])) with e | hx
   ·subst e;have:=a1 k hk;rw[Z6a] at this;omega
   ·exact hx
  ·intro hk
   rcases List.mem_cons.1 ((h k).2 (by simp[hk])) with e | hx
   ·subst e;have:=b1 k hk;rw[Z6a] at this;omega
   ·exact hx
def keyL (j:Bool) (n:List ByteArray) (l:List Zo):List Zo:=if j=true then l.filter (fun x=>memB x.f0 n) else l
theorem Zaq (j:Bool) (n:List ByteArray) (l:List Zo):(keyL j n l).length≤l.length:=by
 unfold keyL;split
 ·exact List.length_filter_le ..
 ·exact Nat.le_refl _
theorem gby {l:List Zo} (j:Bool) (n:List ByteArray) (h:l.length≤1048576) (hn:n.length<1000000):(if j=true then Z4r.f l n else some l)=some (keyL j n l):=by
 unfold keyL;cases j
 ·rfl
 ·simp only[if_true];exact lby l (by unfold Fit;omega) n (by omega)
theorem gkey (a0 a1 a2 a3 a4 a5 a6:Int) (j:Bool) (n:List ByteArray) (s:Zr) (h:s.f0.length≤1048576) (hn:n.length<1000000):Z3a.f a0 a1 a2 a3 a4 a5 a6 j n s=some (keyL j n s.f0):=by
 unfold Z3a.f;rw[← gby j n h hn];cases j
 ·rfl
 ·simp only[if_true]
  rw[lby s.f0 (by unfold Fit;omega) n (by omega),sb]
theorem bin_mem0 {α β:Type} {cmp:α→β→Option Int} {t:β} {c:α→Int} (l:List α) (hc:∀ x∈l,cmp x t=some (c x)) (hl:l.length<1000000000)
  (hm:∀ (i j:Nat) (x y:α),i≤j→l[i]? = some x→l[j]? = some y→c y<0→c x<0):∀ (n i j:Nat),j-i≤n→i≤j→j≤l.length →
  (∀ k x,k<i→l[k]? = some x→c x<0)→(∀ k x,j≤k→l[k]? = some x→0≤c x)→∃ k:Nat,binF.l0 cmp l t (i:Int) (j:Int)=some (k:Int)∧Go.Pv.GS.Found c l k:=by
 intro n
 induction n with
 | zero =>
  intro i j h1 h2 h3 h4 h5;rw[binF.l0,if_neg (by simp;omega)];exact⟨i,rfl,by omega,h4,fun m x hm=>h5 m x (by omega)⟩
 | succ n ih =>
  intro i j h1 h2 h3 h4 h5;by_cases hij:i<j
  case neg =>
   rw[binF.l0,if_neg (by simp;omega)];exact⟨i,rfl,by omega,h4,fun m x hm=>h5 m x (by omega)⟩
  have hh:(i+j) / 2<l.length:=by omega
  have hx:l[(i+j) / 2]? = some l[(i+j) / 2]:=List.getElem?_eq_getElem hh;rw[binF.l0,if_pos (by simp;omega),half_eq (by omega),Z6c rfl hx,sb,hc _ (List.getElem_mem hh),sb];by_cases hlt:c l[(i+j) / 2]<0
  ·rw[if_pos (by simpa using hlt),sb,Zh     (by omega) (by omega)]
   exact ih ((i+j) / 2+1) j (by omega) (by omega) h3 (fun k x hk hx'=>hm k _ x _ (by omega) hx' hx hlt) h5
  ·rw[if_neg (by simpa using hlt),sb]
   exact ih i ((i+j) / 2) (by omega) (by omega) (by omega) h4 (fun k x hk hx'=>by
    exact Int.not_lt.1 (fun q=>hlt (hm _ k _ x hk hx hx' q)))
theorem bin_mem {α β:Type} {cmp:α→β→Option Int} {t:β} {c:α→Int} (l:List α) (hc:∀ x∈l,cmp x t=some (c x)) (hl:l.length<1000000000)
  (hm:∀ (i j:Nat) (x y:α),i≤j→l[i]? = some x→l[j]? = some y→c y<0→c x<0):∃ (k:Nat) (b:Bool),Go.Pv.GS.Found c l k∧(b=true↔∃ x,l[k]? = some x∧c x=0)∧binF.f cmp l t=some ((k:Int),b):=by
 obtain⟨k,e,h⟩:=bin_mem0 l hc hl hm l.length 0 l.length (by omega) (by omega) (Nat.le_refl _) (fun k x hk=>by omega) (fun k x hk hx=>by rw[List.getElem?_eq_none hk] at hx;exact absurd hx (by simp));by_cases hk:k<l.length
 ·refine⟨k,c l[k]==0,h,?_,?_⟩
  ·rw[List.getElem?_eq_getElem hk];simp
  ·unfold binF.f
   rw[show(0:Int)=((0:Nat):Int) from rfl,e,sb,if_pos (by simp;omega),Z6c rfl (List.getElem?_eq_getElem hk),sb,hc _ (List.getElem_mem hk),sb,sb]
 ·refine⟨k,false,h,?_,?_⟩
  ·rw[List.getElem?_eq_none (by omega)];simp
  ·unfold binF.f
   rw[show(0:Int)=((0:Nat):Int) from rfl,e,sb,if_neg (by simp;omega),sb]
def grp (K:Zr→List Zo) (l:List Zr) (k:List Zo):List Zr:=l.filter (fun s=>decide (K s=k))
theorem Z9s {K:Zr→List Zo} {l:List Zr} {k:List Zo} {s:Zr} (h:s∈grp K l k):s∈l∧K s=k:=by simpa[grp] using h
theorem Zbo (K:Zr→List Zo) (l:List Zr) (k:List Zo):(grp K l k).length≤l.length:=List.length_filter_le ..
theorem grp_app (K:Zr→List Zo) (l:List Zr) (k:List Zo) (s:Zr):grp K (l++[s]) k=if K s=k then grp K l k++[s] else grp K l k:=by
 unfold grp;rw[List.filter_append];by_cases e:K s=k<;>simp[e]
structure Keys (K:Zr→List Zo) (l:List Zr) (ks:List (List Zo)):Prop where
 up:UpK ks
 mem:∀ k,k∈ks↔∃ s∈l,K s=k
 len:ks.length≤l.length
theorem Keys.ne {K:Zr→List Zo} {l:List Zr} {ks:List (List Zo)} (h:Keys K l ks) {k:List Zo} (hk:k∈ks):∃ s t,grp K l k=s::t∧K s=k∧s∈l:=by
 obtain⟨s,hs,e⟩:=(h.mem k).1 hk;cases hg:grp K l k with
 | nil => have : s ∈ grp K l k := by simp [grp, hs, e]
          rw[hg] at this;simp at this
 | cons x t=>have:=Z9s (K:=K) (l:=l) (k:=k) (s:=x) (by rw[hg];simp);exact⟨x,t,rfl,this.2,this.1⟩
def headC (K:Zr→List Zo) (y:List Zo):List Zr→Int
 | s::_=>cmpL (K s) y
 | []=>0
theorem gcmp1 (a0 a1 a2 a3 a4 a5 a6:Int) (j:Bool) (n:List ByteArray) (hn:n.length<1000000) (y:List Zo) (hy:y.length≤1048576) (s:Zr) (hs:s.f0.length≤1048576) (t:List Zr) :
  Z16.f (s::t) y a0 a1 a2 a3 a4 a5 a6 j n=some (cmpL (keyL j n s.f0) y):=by
 unfold Z16.f;have:=Zaq j n s.f0;rw[show at? (s::t) 0=some s from rfl,sb,gkey _ _ _ _ _ _ _ j n s hs hn,sb,lcmp _ _ (by omega) (by omega),sb]
theorem bin_inst (gs:List (List Zr)) (y:List Zo) (a0 a1 a2 a3 a4 a5 a6:Int) (j:Bool) (n:List ByteArray) :
  Zj.f gs y a0 a1 a2 a3 a4 a5 a6 j n=binF.f (fun g y=>Z16.f g y a0 a1 a2 a3 a4 a5 a6 j n) gs y:=by kernel_rfl
theorem set_ins {α:Type} (l:List α) (n:Nat) (h:n≤l.length) (x y:α):(l.take n++x::l.drop n).set n y=l.take n++y::l.drop n:=by
 rw[List.set_append,if_neg (by simp;omega)];simp[Nat.min_eq_left h]
theorem get_ins {α:Type} (l:List α) (n:Nat) (h:n≤l.length) (x:α):(l.take n++x::l.drop n)[n]? = some x:=by
 rw[List.getElem?_append_right (by simp;omega)];simp[Nat.min_eq_left h]
theorem groups_l0 (a0 a1 a2 a3 a4 a5 a6:Int) (j:Bool) (n:List ByteArray) (hn:n.length<1000000) (l:List Zr) (hl:l.length≤100000) (hf:∀ s∈l,s.f0.length≤1048576):∀ (suf pre:List Zr) (ks:List (List Zo)) (i:Int),l=pre++suf→i=(pre.length:Int)→Keys (fun s=>keyL j n s.f0) pre ks →
  ∃ ks',Keys (fun s=>keyL j n s.f0) l ks'∧Z03.l0 a0 a1 a2 a3 a4 a5 a6 j n l (ks.map (grp (fun s=>keyL j n s.f0) pre)) i=some (ks'.map (grp (fun s=>keyL j n s.f0) l)):=by
 intro suf
 induction suf with
 | nil =>
  intro pre ks i h1 hi hk;rw[List.append_nil] at h1;subst h1;rw[Z03.l0,if_neg (by simp[hi])];exact⟨ks,hk,rfl⟩
 | cons s suf ih =>
  intro pre ks i h1 hi hk;have hlen:l.length=pre.length+(suf.length+1):=by rw[h1];simp
  have hsf:=hf s (by rw[h1];simp);have hyl:=Zaq j n s.f0;generalize hK:(fun s:Zr=>keyL j n s.f0)=K at *;have hKs:∀ s:Zr,keyL j n s.f0=K s:=fun s=>by rw[← hK]
  rw[Z03.l0,if_pos (by simp;omega),Z0t h1 hi,sb,gby j n hsf hn,sb,bin_inst,hKs s];rw[hKs s] at hyl;have hpf:∀ s∈pre,s.f0.length≤1048576:=fun x hx=>hf x (by rw[h1];simp[hx])
  have hget:∀ m k,ks[m]? = some k→∃ x t,(ks.map (grp K pre))[m]? = some (x::t)∧K x=k∧x∈pre:=fun m k hm=>by
   obtain⟨x,t,e1,e2,e3⟩:=hk.ne (List.mem_of_getElem? hm);exact⟨x,t,by rw[List.getElem?_map,hm,← e1];rfl,e2,e3⟩
  have hget':∀ m g,(ks.map (grp K pre))[m]? = some g→∃ k,ks[m]? = some k∧headC K (K s) g=cmpL k (K s):=fun m g hm=>by
   rw[List.getElem?_map] at hm;cases e:ks[m]? with
   | none=>rw[e] at hm;simp at hm
   | some k =>
    obtain⟨x,t,e1,e2,e3⟩:=hget m k e;rw[List.getElem?_map,e] at e1;rw[e] at hm;have:g=x::t:=by rw[← Option.some.inj hm];exact Option.some.inj e1
    subst this;exact⟨k,e,by rw[headC,e2]⟩
  obtain⟨m,b,hF,hb,eb⟩:=bin_mem (cmp:=fun g y=>Z16.f g y a0 a1 a2 a3 a4 a5 a6 j n) (t:=K s) (c:=headC K (K s)) (ks.map (grp K pre)) (fun g hg=>by
   obtain⟨k,hk1,rfl⟩:=List.mem_map.1 hg;obtain⟨x,t,e1,e2,e3⟩:=hk.ne hk1;rw[e1];show Z16.f (x::t) (K s) a0 a1 a2 a3 a4 a5 a6 j n=_;rw[gcmp1 a0 a1 a2 a3 a4 a5 a6 j n hn (K s) (by omega) x (hpf x e3) t,hKs x];rfl) (by simp;have:=hk.len;omega) (fun i1 j1 x y hij hx hy hneg=>by
   obtain⟨k1,f1,f2⟩:=hget' _ _ hx;obtain⟨k2,f3,f4⟩:=hget' _ _ hy;rw[f2];rw[f4] at hneg;by_cases q:i1=j1
   ·subst q;rw[f1] at f3;obtain rfl:=Option.some.inj f3;exact hneg
   ·obtain⟨p1,r1⟩:=List.getElem?_eq_some_iff.1 f1
    obtain⟨p2,r2⟩:=List.getElem?_eq_some_iff.1 f3;have:=List.pairwise_iff_getElem.1 hk.up i1 j1 p1 p2 (by omega);rw[r1,r2] at this;exact Z9u _ _ _ this hneg)
  have hml:m≤ks.length:=by have:=hF.le;simpa using this
  rw[eb,sb];dsimp only;rw[Int.toNat_natCast];have hkl:=hk.len;have lo:∀ q k,q<m→ks[q]? = some k→cmpL k (K s)<0:=fun q k hq hk'=>by
   obtain⟨x,t,e1,e2,e3⟩:=hget q k hk';have:=hF.lo q _ hq e1;rw[headC,e2] at this;exact this
  have hi':∀ q k,m≤q→ks[q]? = some k→0≤cmpL k (K s):=fun q k hq hk'=>by
   obtain⟨x,t,e1,e2,e3⟩:=hget q k hk';have:=hF.hi q _ hq e1;rw[headC,e2] at this;exact this
  have hgl:∀ k,(grp K pre k).length≤pre.length:=Zbo K pre
  cases hbb:b with
  | true =>
   obtain⟨g,hg,hc⟩:=hb.1 hbb;obtain⟨k,hk1,hk2⟩:=hget' _ _ hg;rw[hk2] at hc;have ek:=(Z94 _ _).1 hc;subst ek;rw[if_neg (by simp),sb,Z6c rfl hg,sb];rw[List.getElem?_map,hk1] at hg;have eg:grp K pre (K s)=g:=Option.some.inj hg;rw[← eg,chkB (by have:=hgl (K s);omega),Zh (by omega) (by omega)];have eset:(ks.map (grp K pre)).set m (grp K pre (K s)++[s])=ks.map (grp K (pre++[s])):=by
    apply List.ext_getElem?;intro q;rw[List.getElem?_map];by_cases hq:m=q
    ·subst hq
     rw[List.getElem?_set_self (by simpa using (List.getElem?_eq_some_iff.1 hk1).1),hk1];simp[grp_app]
    ·rw[List.getElem?_set_ne hq,List.getElem?_map]
     cases e:ks[q]? with
     | none=>rfl
     | some k =>
      have hne:K s≠k:=fun e2=>by
       subst e2;obtain⟨p1,r1⟩:=List.getElem?_eq_some_iff.1 hk1;obtain⟨p2,r2⟩:=List.getElem?_eq_some_iff.1 e;rcases Nat.lt_or_gt_of_ne hq with h | h
       ·have:=List.pairwise_iff_getElem.1 hk.up m q p1 p2 h;rw[r1,r2,Z6a] at this;omega
       ·have:=List.pairwise_iff_getElem.1 hk.up q m p2 p1 h;rw[r1,r2,Z6a] at this;omega
      simp[grp_app,hne]
   rw[eset];refine ih (pre++[s]) ks (i+1) (by simp[h1]) (by simp;omega) ⟨hk.up,fun k => ?_,by simp;omega⟩;rw[hk.mem k];constructor
   ·rintro⟨x,hx,e⟩;exact⟨x,by simp[hx],e⟩
   ·rintro⟨x,hx,e⟩
    rcases List.mem_append.1 hx with hx | hx
    ·exact⟨x,hx,e⟩
    ·simp at hx;subst hx;subst e;exact(hk.mem _).1 (List.mem_of_getElem? hk1)
  | false =>
   have hnot:K s ∉ ks:=fun hin=>by
    obtain⟨q,hq⟩:=List.getElem?_of_mem hin;rcases Nat.lt_trichotomy q m with h | h | h
    ·have:=lo q _ h hq;rw[Z6a] at this;omega
    ·subst h
     obtain⟨x,t,e1,e2,e3⟩:=hget q _ hq;have:b=true:=hb.2 ⟨_,e1,by rw[headC,e2,Z6a]⟩;rw[hbb] at this;exact absurd this (by simp)
    ·obtain⟨p2,r2⟩:=List.getElem?_eq_some_iff.1 hq
     have hm':ks[m]? = some ks[m]:=List.getElem?_eq_getElem (by omega);have g1:=hi' m _ (Nat.le_refl _) hm';have:=List.pairwise_iff_getElem.1 hk.up m q (by omega) p2 h;rw[r2] at this;omega
   rw[if_pos (by simp),chkB (by simp;omega),sb,Z6c rfl (get_ins _ _ (by simpa using hml) _),sb,chkB (by simp),set_ins _ _ (by simpa using hml),Zh (by omega) (by omega),List.nil_append];have hgone:grp K pre (K s)=[]:=by
    cases e:grp K pre (K s) with
    | nil=>rfl
    | cons x t =>
     have:=Z9s (K:=K) (l:=pre) (k:=K s) (s:=x) (by rw[e];simp);exact absurd ((hk.mem (K s)).2 ⟨x,this.1,this.2⟩) hnot
   have hsame:∀ k∈ks,grp K (pre++[s]) k=grp K pre k:=fun k hk'=>by
    rw[grp_app,if_neg (fun e:K s=k=>hnot (by rw[e];exact hk'))]
   have emap:(ks.map (grp K pre)).take m++[s]::(ks.map (grp K pre)).drop m=(ks.take m++K s::ks.drop m).map (grp K (pre++[s])):=by
    rw[List.map_append,List.map_cons,List.map_take.symm,List.map_drop.symm,grp_app,if_pos rfl,hgone,List.nil_append];rw[List.map_congr_left (fun k hk'=>hsame k (List.mem_of_mem_take hk')),List.map_congr_left (fun k hk'=>hsame k (List.mem_of_mem_drop hk'))]
   rw[emap];refine ih (pre++[s]) (ks.take m++K s::ks.drop m) (i+1) (by simp[h1]) (by simp;omega) ⟨?_,fun k => ?_,by simp;omega⟩
   ·refine List.pairwise_append.2 ⟨hk.up.sublist (List.take_sublist ..),List.pairwise_cons.2 ⟨fun k hk' => ?_,hk.up.sublist (List.drop_sublist ..)⟩,fun k hk' k2 hk2 => ?_⟩
    ·obtain⟨q,hq⟩:=List.getElem?_of_mem hk'
     rw[List.getElem?_drop] at hq;have g1:=hi' _ _ (by omega) hq;have g2:cmpL k (K s)≠0:=fun e=>hnot ((Z94 _ _).1 e ▸ List.mem_of_mem_drop hk');rw[cmpL_neg];omega
    ·obtain⟨q,hq⟩:=List.getElem?_of_mem hk'
     rw[List.getElem?_take] at hq;split at hq
     ·rename_i hqm
      have g1:=lo _ _ hqm hq;rcases List.mem_cons.1 hk2 with rfl | hk2
      ·exact g1
      ·obtain⟨q2,hq2⟩:=List.getElem?_of_mem hk2
       rw[List.getElem?_drop] at hq2;obtain⟨p1,r1⟩:=List.getElem?_eq_some_iff.1 hq;obtain⟨p2,r2⟩:=List.getElem?_eq_some_iff.1 hq2;have:=List.pairwise_iff_getElem.1 hk.up q (m+q2) p1 p2 (by omega);rw[r1,r2] at this;exact this
     ·simp at hq
   ·have:k∈ks.take m++K s::ks.drop m↔k=K s∨k∈ks:=by
     rw[List.mem_append,List.mem_cons];constructor
     ·rintro(h | h | h)
      ·exact .inr (List.mem_of_mem_take h)
      ·exact .inl h
      ·exact .inr (List.mem_of_mem_drop h)
     ·rintro(h | h)
      ·exact .inr (.inl h)
      ·rw[← List.take_append_drop m ks] at h
       rcases List.mem_append.1 h with h | h
       ·exact .inl h
       ·exact .inr (.inr h)
    rw[this,hk.mem k];constructor
    ·rintro(rfl | ⟨x,hx,e⟩)
     ·exact⟨s,by simp,rfl⟩
     ·exact⟨x,by simp[hx],e⟩
    ·rintro⟨x,hx,e⟩
     rcases List.mem_append.1 hx with hx | hx
     ·exact .inr ⟨x,hx,e⟩
     ·simp at hx;subst hx;exact .inl e.symm
theorem groups_spec (a0 a1 a2 a3 a4 a5 a6:Int) (j:Bool) (n:List ByteArray) (hn:n.length<1000000) (l:List Zr) (hl:l.length≤100000) (hf:∀ s∈l,s.f0.length≤1048576) :
  ∃ ks,Keys (fun s=>keyL j n s.f0) l ks∧Z03.f a0 a1 a2 a3 a4 a5 a6 j n l=some (ks.map (grp (fun s=>keyL j n s.f0) l)) :=
 groups_l0 a0 a1 a2 a3 a4 a5 a6 j n hn l hl hf l [] [] 0 rfl rfl ⟨List.Pairwise.nil,fun k=>by simp,Nat.le_refl _⟩
theorem compare_int (a b:Int):Z3n.f a b=some (if a<b then -1 else if a>b then 1 else 0):=by
 unfold Z3n.f Z3t.f;by_cases h1:a<b
 ·simp[h1]
 ·by_cases h2:b<a
  ·simp[h1,h2]
  ·simp[h1,h2]
theorem num_add_l0 (l:List Int) (hl:l.length<4611686018427387904):∀ (suf pre:List Int) (acc i:Int),l=pre++suf→i=(pre.length:Int)→U64 acc→(∀ x∈suf,U64 x) →
  Z2c.l0 l acc i=some (if acc+suf.sum<18446744073709551616 then .inr (acc+suf.sum) else .inl (0,5)):=by
 intro suf
 induction suf with
 | nil =>
  intro pre acc i h1 hi ha hs;subst h1;rw[Z2c.l0,if_neg (by simp[hi])];simp[ha.2]
 | cons x suf ih =>
  intro pre acc i h1 hi ha hs;have hx:=hs x (by simp);have hs':∀ y∈suf,U64 y:=fun y hy=>hs y (by simp[hy])
  have hnn:0≤suf.sum:=Z5g (fun y hy=>(hs' y hy).1);rw[Z2c.l0,if_pos (by rw[h1];simp[hi];omega)];rw[Z0t h1 hi,sb,chkB ⟨ha.1,hx.1,by omega,by omega⟩];have hlen:(l.length:Int)=pre.length+(suf.length+1):=by rw[h1];simp
  by_cases hov:acc+x<18446744073709551616
  ·rw[if_neg (by simp;omega),Zh     (by omega) (by omega),show(acc+x+0) % 18446744073709551616=acc+x by omega]
   rw[ih (pre++[x]) (acc+x) (i+1) (by simp[h1]) (by simp;omega) ⟨by omega,hov⟩ hs'];rw[List.sum_cons,Int.add_assoc]
  ·rw[if_pos (by simp;omega),if_neg (by rw[List.sum_cons];omega)]
theorem num_add (l:List Int) (hl:l.length<4611686018427387904) (h:∀ x∈l,U64 x) :
  Z2c.f l=some (if l.sum<18446744073709551616 then(l.sum,0) else(0,5)):=by
 unfold Z2c.f;rw[num_add_l0 l hl l [] 0 0 rfl rfl (by omega) h,sb,Int.zero_add];by_cases h:l.sum<18446744073709551616
 ·rw[if_pos h,if_pos h]
 ·rw[if_neg h,if_neg h]
theorem Z6j {a b:Int} (ha:U64 a) (hb:U64 b):Z2c.f [a,b]=some (if a+b<18446744073709551616 then(a+b,0) else(0,5)):=by
 rw[num_add [a,b] (by simp) (by simp;exact⟨ha,hb⟩)];simp
end Go.Proofs.YtcilcefjcaimoaaGreat.PvGQ
namespace Go.Proofs.YtcilcefjcaimoaaGreat.PvGQ
open Go Go.Pv Go.Pv.GS Go.IntKind
open Classical
theorem Z8i (a:Int) {b:Int} (h:0≤b):Int.fdiv a b=a / b:=Int.fdiv_eq_ediv_of_nonneg a h
theorem mask32 {a:Int} (h:U64 a):(((BitVec.ofInt 64 a &&& BitVec.ofInt 64 (4294967295:Int)).toNat:Nat):Int)=a % 4294967296:=by
 have h1:=h.1;have h2:=h.2;rw[BitVec.toNat_and,BitVec.toNat_ofInt,BitVec.toNat_ofInt];have e:(4294967295 % ((2 ^ 64:Nat):Int)).toNat=2 ^ 32-1:=by decide
 rw[e,Nat.and_two_pow_sub_one_eq_mod];have:a % ((2 ^ 64:Nat):Int)=a:=by omega
 rw[this];omega
theorem mul_parts {x y x0 x1 y0 y1:Int} (hx:x=x1*4294967296+x0) (hy:y=y1*4294967296+y0):x*y=x1*y1*18446744073709551616+(x1*y0+x0*y1)*4294967296+x0*y0:=by
 subst hx;subst hy;simp only[Int.add_mul,Int.mul_add];have e1:x1*4294967296*(y1*4294967296)=x1*y1*18446744073709551616:=by
  rw[Int.mul_assoc,Int.mul_left_comm 4294967296 y1,← Int.mul_assoc,show(4294967296:Int)*4294967296=18446744073709551616 from rfl]
 have e2:x1*4294967296*y0=x1*y0*4294967296:=by rw[Int.mul_right_comm]
 have e3:x0*(y1*4294967296)=x0*y1*4294967296:=by rw[Int.mul_assoc]
 rw[e1,e2,e3];omega
theorem Z4h {a b:Int} (ha:0≤a∧a<4294967296) (hb:0≤b∧b<4294967296):0≤a*b∧a*b≤18446744065119617025:=by
 refine⟨Int.mul_nonneg ha.1 hb.1,?_⟩;have:=Int.mul_le_mul (show a≤4294967295 by omega) (show b≤4294967295 by omega) hb.1 (by decide);omega
theorem num_mul {a b:Int} (ha:U64 a) (hb:U64 b):Z6y.f a b=some ⟨a*b / 18446744073709551616,a*b % 18446744073709551616⟩:=by
 have a1:=ha.1;have a2:=ha.2;have b1:=hb.1;have b2:=hb.2;unfold Z6y.f;have e0:Z5s.f a b=some ():=rfl;rw[e0,sb];rw[mask32 ha,mask32 hb,Z8i _ (by decide),Z8i _ (by decide)];have hx:a=a / 4294967296*4294967296+a % 4294967296:=by omega
 have hy:b=b / 4294967296*4294967296+b % 4294967296:=by omega
 have E:=mul_parts hx hy;have p11:=Z4h (a:=a / 4294967296) (b:=b / 4294967296) (by omega) (by omega);have p10:=Z4h (a:=a / 4294967296) (b:=b % 4294967296) (by omega) (by omega);have p01:=Z4h (a:=a % 4294967296) (b:=b / 4294967296) (by omega) (by omega);have p00:=Z4h (a:=a % 4294967296) (b:=b % 4294967296) (by omega) (by omega);generalize a*b=ab at *;rw[Z28 (n:=b % 4294967296) (by omega) (by omega),Z28 (n:=a % 4294967296) (by omega) (by omega)];generalize a / 4294967296*(b / 4294967296)=q11 at *;generalize a / 4294967296*(b % 4294967296)=q10 at *;generalize a % 4294967296*(b / 4294967296)=q01 at *;generalize a % 4294967296*(b % 4294967296)=q00 at *;simp only[Z8i _ (show(0:Int)≤4294967296 by decide)];rw[Z28 (n:=q11) (by omega) (by omega),Z28 (n:=q10) (by omega) (by omega),Z28 (n:=q01) (by omega) (by omega),Z28 (n:=q00) (by omega) (by omega)];rw[Z28 (n:=q10+q00 / 4294967296) (by omega) (by omega)];rw[mask32 ⟨by omega,by omega⟩,Z28 (n:=(q10+q00 / 4294967296) % 4294967296) (by omega) (by omega)];rw[Z28 (n:=(q10+q00 / 4294967296) % 4294967296+q01) (by omega) (by omega)];rw[Z28 (n:=q11+(q10+q00 / 4294967296) / 4294967296) (by omega) (by omega)];rw[Z28 (n:=q11+(q10+q00 / 4294967296) / 4294967296+((q10+q00 / 4294967296) % 4294967296+q01) / 4294967296) (by omega) (by omega),Z72];congr 2;omega
theorem ref_mul {a b:Int} (ha:U64 a) (hb:U64 b):Z0l.f a b=some (a*b / 18446744073709551616,a*b % 18446744073709551616):=by
 have a1:=ha.1;have a2:=ha.2;have b1:=hb.1;have b2:=hb.2;have hx:a=a / 4294967296*4294967296+a % 4294967296:=by omega
 have hy:b=b / 4294967296*4294967296+b % 4294967296:=by omega
 have E:=mul_parts hx hy;have p11:=Z4h (a:=a / 4294967296) (b:=b / 4294967296) (by omega) (by omega);have p10:=Z4h (a:=a / 4294967296) (b:=b % 4294967296) (by omega) (by omega);have p01:=Z4h (a:=a % 4294967296) (b:=b / 4294967296) (by omega) (by omega);have p00:=Z4h (a:=a % 4294967296) (b:=b % 4294967296) (by omega) (by omega);unfold Z0l.f;have ta:Int.tmod a 4294967296=a % 4294967296:=Int.tmod_eq_emod_of_nonneg a1;have tb:Int.tmod b 4294967296=b % 4294967296:=Int.tmod_eq_emod_of_nonneg b1;have da:u64.wrap (Int.tdiv a 4294967296)=a / 4294967296:=by rw[Int.tdiv_eq_ediv_of_nonneg a1,Z28 (by omega) (by omega)]
 have db:u64.wrap (Int.tdiv b 4294967296)=b / 4294967296:=by rw[Int.tdiv_eq_ediv_of_nonneg b1,Z28 (by omega) (by omega)]
 have L1:∀ (i:Nat) (l:List Int) (c k:Int),Z0l.l1 a b i l c k=if(decide (k<(2:Int)))=true then((at? l (i64.wrap ((i:Int)+k)))>>=fun b1817=>(at? [a % 4294967296,a / 4294967296] i)>>=fun b1820=>(at? [b % 4294967296,b / 4294967296] k)>>=fun b1823=>Z0l.l1 a b i (l.set (Int.toNat (i64.wrap ((i:Int)+k))) (Int.tmod (u64.wrap ((u64.wrap (b1817+(u64.wrap (b1820*b1823))))+c)) 4294967296)) (u64.wrap (Int.tdiv (u64.wrap ((u64.wrap (b1817+(u64.wrap (b1820*b1823))))+c)) 4294967296)) (i64.wrap (k+(1:Int)))) else(some (l,c)):=by
  intro i l c k;rw[Z0l.l1,ta,tb,da,db]
 have S:∀ (i:Nat) (l:List Int) (c k x y z:Int),k<2→at? l (i64.wrap ((i:Int)+k))=some x→at? [a % 4294967296,a / 4294967296] i=some y→at? [b % 4294967296,b / 4294967296] k=some z→0≤x→x<4294967296→0≤c→c<4294967296→0≤y∧y<4294967296→0≤z∧z<4294967296 →
   Z0l.l1 a b i l c k=Z0l.l1 a b i (l.set (Int.toNat (i64.wrap ((i:Int)+k))) ((x+y*z+c) % 4294967296)) ((x+y*z+c) / 4294967296) (i64.wrap (k+(1:Int))):=by
  intro i l c k x y z hk ex ey ez x0 x1 c0 c1 hy hz;have:=Z4h hy hz;rw[L1 i l c k,if_pos (by simpa using hk),ex,sb,ey,sb,ez,sb];generalize y*z=yz at *;rw[Z28 (n:=yz) (by omega) (by omega),Z28 (n:=x+yz) (by omega) (by omega),Z28 (n:=x+yz+c) (by omega) (by omega),Int.tmod_eq_emod_of_nonneg (by omega),Int.tdiv_eq_ediv_of_nonneg (by omega),Z28 (n:=(x+yz+c) / 4294967296) (by omega) (by omega)]
 have bx1:0≤a / 4294967296∧a / 4294967296<4294967296:=by omega
 have bx0:0≤a % 4294967296∧a % 4294967296<4294967296:=by omega
 have by1:0≤b / 4294967296∧b / 4294967296<4294967296:=by omega
 have by0:0≤b % 4294967296∧b % 4294967296<4294967296:=by omega
 generalize a / 4294967296=x1 at *;generalize a % 4294967296=x0 at *;generalize b / 4294967296=y1 at *;generalize b % 4294967296=y0 at *;obtain⟨n00,h00⟩:∃ n,n=0+x0*y0+0:=⟨_,rfl⟩
 have s1:Z0l.l1 a b 0 [0,0,0,0] 0 0=Z0l.l1 a b 0 [n00 % 4294967296,0,0,0] (n00 / 4294967296) 1:=by
  rw[h00];exact S 0 [0,0,0,0] 0 0 0 x0 y0 (by decide) rfl rfl rfl (by decide) (by decide) (by decide) (by decide) bx0 by0
 obtain⟨n01,h01⟩:∃ n,n=0+x0*y1+n00 / 4294967296:=⟨_,rfl⟩
 have s2:Z0l.l1 a b 0 [n00 % 4294967296,0,0,0] (n00 / 4294967296) 1=Z0l.l1 a b 0 [n00 % 4294967296,n01 % 4294967296,0,0] (n01 / 4294967296) 2:=by
  rw[h01];exact S 0 [n00 % 4294967296,0,0,0] (n00 / 4294967296) 1 0 x0 y1 (by decide) rfl rfl rfl (by decide) (by decide) (by omega) (by omega) bx0 by1
 have s3:Z0l.l1 a b 0 [n00 % 4294967296,n01 % 4294967296,0,0] (n01 / 4294967296) 2=some ([n00 % 4294967296,n01 % 4294967296,0,0],n01 / 4294967296):=by
  rw[Z0l.l1,if_neg (by decide)]
 obtain⟨n10,h10⟩:∃ n,n=n01 % 4294967296+x1*y0+0:=⟨_,rfl⟩
 obtain⟨c,hc⟩:∃ c,c=n01 / 4294967296:=⟨_,rfl⟩
 have t1:Z0l.l1 a b 1 [n00 % 4294967296,n01 % 4294967296,c,0] 0 0=Z0l.l1 a b 1 [n00 % 4294967296,n10 % 4294967296,c,0] (n10 / 4294967296) 1:=by
  rw[h10];exact S 1 [n00 % 4294967296,n01 % 4294967296,c,0] 0 0 (n01 % 4294967296) x1 y0 (by decide) rfl rfl rfl (by omega) (by omega) (by decide) (by decide) bx1 by0
 obtain⟨n11,h11⟩:∃ n,n=c+x1*y1+n10 / 4294967296:=⟨_,rfl⟩
 have t2:Z0l.l1 a b 1 [n00 % 4294967296,n10 % 4294967296,c,0] (n10 / 4294967296) 1=Z0l.l1 a b 1 [n00 % 4294967296,n10 % 4294967296,n11 % 4294967296,0] (n11 / 4294967296) 2:=by
  rw[h11];exact S 1 [n00 % 4294967296,n10 % 4294967296,c,0] (n10 / 4294967296) 1 c x1 y1 (by decide) rfl rfl rfl (by omega) (by omega) (by omega) (by omega) bx1 by1
 have t3:Z0l.l1 a b 1 [n00 % 4294967296,n10 % 4294967296,n11 % 4294967296,0] (n11 / 4294967296) 2=some ([n00 % 4294967296,n10 % 4294967296,n11 % 4294967296,0],n11 / 4294967296):=by
  rw[Z0l.l1,if_neg (by decide)]
 have u0:Z0l.l0 a b [0,0,0,0] 0=Z0l.l0 a b [n00 % 4294967296,n01 % 4294967296,c,0] 1:=by
  rw[Z0l.l0,if_pos (by decide),s1,s2,s3,sb]
  try dsimp only
  rw[show at? [n00 % 4294967296,n01 % 4294967296,0,0] (i64.wrap (0+2))=some 0 from rfl,sb,Int.zero_add (n01 / 4294967296),← hc,Z28 (n:=c) (by omega) (by omega)];rfl
 have u1:Z0l.l0 a b [n00 % 4294967296,n01 % 4294967296,c,0] 1=Z0l.l0 a b [n00 % 4294967296,n10 % 4294967296,n11 % 4294967296,n11 / 4294967296] 2:=by
  rw[Z0l.l0,if_pos (by decide),t1,t2,t3,sb]
  try dsimp only
  rw[show at? [n00 % 4294967296,n10 % 4294967296,n11 % 4294967296,0] (i64.wrap (1+2))=some 0 from rfl,sb,Int.zero_add (n11 / 4294967296),Z28 (n:=n11 / 4294967296) (by omega) (by omega)];rfl
 have u2:Z0l.l0 a b [n00 % 4294967296,n10 % 4294967296,n11 % 4294967296,n11 / 4294967296] 2=some [n00 % 4294967296,n10 % 4294967296,n11 % 4294967296,n11 / 4294967296]:=by
  rw[Z0l.l0,if_neg (by decide)]
 rw[u0,u1,u2,sb];show some (u64.wrap (u64.wrap (n11 / 4294967296*4294967296)+n11 % 4294967296),u64.wrap (u64.wrap (n10 % 4294967296*4294967296)+n00 % 4294967296))=_;generalize a*b=ab at *;generalize x1*y1=q11 at *;generalize x1*y0=q10 at *;generalize x0*y1=q01 at *;generalize x0*y0=q00 at *;rw[Z28 (n:=n11 / 4294967296*4294967296) (by omega) (by omega),Z28 (n:=n10 % 4294967296*4294967296) (by omega) (by omega),Z28 (by omega) (by omega),Z28 (by omega) (by omega)];congr 2<;>omega
theorem ref_less (a b c d:Int) (hb:0≤b∧b<18446744073709551616) (hd:0≤d∧d<18446744073709551616):Z65.f a b c d=some (decide (a*18446744073709551616+b<c*18446744073709551616+d)):=by
 unfold Z65.f;by_cases h:a=c
 ·rw[if_neg (by simp[h])];congr 1;rw[decide_eq_decide];omega
 ·rw[if_pos (by simpa using h)];congr 1;rw[decide_eq_decide];omega
theorem uu_add (x y:Int):u64.wrap (u64.wrap x+y)=u64.wrap (x+y):=by simp only[Z72];omega
theorem uu_sub (x y:Int):u64.wrap (u64.wrap x-u64.wrap y)=u64.wrap (x-y):=by simp only[Z72];omega
structure Est (Y y1 y0 U d q r:Int):Prop where
 eq:q*y1+r=U
 lo:(U*4294967296+d) / Y≤q
 r0:0≤r
 r1:r<4294967296
 q1:q≤4294967297
structure Nm (Y y1 y0:Int):Prop where
 eq:Y=y1*4294967296+y0
 a0:0≤y0
 a1:y0<4294967296
 b0:2147483648≤y1
 b1:y1<4294967296
theorem Nm.pos {Y y1 y0:Int} (h:Nm Y y1 y0):0<Y:=by have:=h.eq;have:=h.a0;have:=h.b0;omega
theorem est_big {Y y1 y0 U d q r:Int} (n:Nm Y y1 y0) (hU:0≤U∧U<Y) (hd:0≤d∧d<4294967296):(U*4294967296+d) / Y<4294967296:=by
 refine Int.ediv_lt_of_lt_mul n.pos ?_;rw[Int.mul_comm];omega
theorem est_down {Y y1 y0 U d q r:Int} (n:Nm Y y1 y0) (hU:0≤U∧U<Y) (hd:0≤d∧d<4294967296) (e:Est Y y1 y0 U d q r)
  (h:q≥4294967296∨q*y0>4294967296*r+d):(U*4294967296+d) / Y≤q-1:=by
 have big:=est_big (q:=q) (r:=r) n hU hd;rcases h with h | h
 ·omega
 ·have:(U*4294967296+d) / Y<q:=by
   refine Int.ediv_lt_of_lt_mul n.pos ?_;have e1:=e.eq;have:q*Y=q*y1*4294967296+q*y0:=by rw[n.eq,Int.mul_add,Int.mul_assoc]
   omega
  omega
theorem est_fin {Y y1 y0 U d q r:Int} (n:Nm Y y1 y0) (hU:0≤U) (hd:0≤d) (he:q*y1+r=U) (hlo:(U*4294967296+d) / Y≤q) (h:q*y0≤4294967296*r+d):q=(U*4294967296+d) / Y:=by
 have:q≤(U*4294967296+d) / Y:=by
  refine(Int.le_ediv_iff_mul_le n.pos).2 ?_;have:q*Y=q*y1*4294967296+q*y0:=by rw[n.eq,Int.mul_add,Int.mul_assoc]
  omega
 omega
theorem est_start {Y y1 y0 U d:Int} (n:Nm Y y1 y0) (hU:0≤U∧U<Y) (hd:0≤d∧d<4294967296):Est Y y1 y0 U d (U / y1) (U-U / y1*y1):=by
 have b0:=n.b0;have hp:0<y1:=by omega
 have m0:=Int.emod_nonneg U (show y1≠0 by omega);have m1:=Int.emod_lt_of_pos U hp;have e:=Int.mul_ediv_add_emod U y1;have e':U / y1*y1=y1*(U / y1):=Int.mul_comm _ _;have hq0:0≤U / y1:=Int.ediv_nonneg hU.1 (by omega);refine⟨by omega,?_,by omega,by have:=n.b1;omega,?_⟩
 ·refine Int.lt_add_one_iff.1 (Int.ediv_lt_of_lt_mul n.pos ?_)
  have:(U / y1+1)*Y=(U / y1*y1+y1)*4294967296+(U / y1+1)*y0:=by rw[n.eq,Int.mul_add,← Int.mul_assoc,Int.add_mul,Int.one_mul]
  have:0≤(U / y1+1)*y0:=Int.mul_nonneg (by omega) n.a0;omega
 ·refine Int.lt_add_one_iff.1 (Int.ediv_lt_of_lt_mul hp ?_)
  have:=n.eq;have:=n.a1;omega
theorem est_loop {Y y1 y0 U d:Int} (n:Nm Y y1 y0) (hU:0≤U∧U<Y) (hd:0≤d∧d<4294967296) (F:Int→Int→Option Int)
  (hF:∀ q r,F q r=((if(decide (q≥(4294967296:Int)))=true then(some true) else(some (decide ((u64.wrap (q*y0))>(u64.wrap ((u64.wrap ((4294967296:Int)*r))+d)))))):Option Bool)>>=fun c=>if c=true then(if(decide ((u64.wrap (r+y1))≥(4294967296:Int)))=true then(some (u64.wrap (q-(1:Int)))) else(F (u64.wrap (q-(1:Int))) (u64.wrap (r+y1)))) else some q) :
  ∀ (k:Nat) (q r:Int),(4294967296-r).toNat≤k→Est Y y1 y0 U d q r→F q r=some ((U*4294967296+d) / Y):=by
 intro k
 induction k with
 | zero=>intro q r hk e;have:=e.r1;omega
 | succ k ih =>
  intro q r hk e;have er0:=e.r0;have er1:=e.r1;have eq1:=e.q1;have b0:=n.b0;have b1:=n.b1;have a0:=n.a0;have a1:=n.a1;have q0:0≤q:=Int.le_trans (Int.ediv_nonneg (by omega) (Int.le_of_lt n.pos)) e.lo;rw[hF];have cont:(q≥4294967296∨q*y0>4294967296*r+d)→(if(decide ((u64.wrap (r+y1))≥(4294967296:Int)))=true then(some (u64.wrap (q-(1:Int)))) else(F (u64.wrap (q-(1:Int))) (u64.wrap (r+y1))))=some ((U*4294967296+d) / Y):=by
   intro h;have hd1:=est_down n hU hd e h;have hq1:1≤q:=by
    have:0≤(U*4294967296+d) / Y:=Int.ediv_nonneg (by omega) (Int.le_of_lt n.pos);omega
   rw[Z28 (n:=r+y1) (by omega) (by omega),Z28 (n:=q-1) (by omega) (by omega)];have e1:(q-1)*y1+(r+y1)=U:=by rw[Int.sub_mul,Int.one_mul];have:=e.eq;omega
   by_cases hr:r+y1≥4294967296
   ·rw[if_pos (by simpa using hr)]
    congr 1;refine est_fin n hU.1 hd.1 e1 hd1 ?_;have m:(q-1)*y0≤4294967296*y0:=Int.mul_le_mul_of_nonneg_right (by omega) a0;omega
   ·rw[if_neg (by simpa using hr)]
    exact ih (q-1) (r+y1) (by omega) ⟨e1,hd1,by omega,by omega,by omega⟩
  by_cases h1:q≥4294967296
  ·rw[if_pos (by simpa using h1),sb,if_pos rfl]
   exact cont (.inl h1)
  ·rw[if_neg (by simpa using h1),sb]
   have m:=Z4h (a:=q) (b:=y0) ⟨q0,by omega⟩ ⟨a0,a1⟩;rw[Z28 (n:=q*y0) (by omega) (by omega),Z28 (n:=4294967296*r) (by omega) (by omega),Z28 (n:=4294967296*r+d) (by omega) (by omega)];by_cases h2:q*y0>4294967296*r+d
   ·rw[if_pos (by simpa using h2)]
    exact cont (.inr h2)
   ·rw[if_neg (by simpa using h2)]
    congr 1;exact est_fin n hU.1 hd.1 e.eq e.lo (by omega)
def len8:ByteArray:=⟨#[0,1,2,2,3,3,3,3,4,4,4,4,4,4,4,4,5,5,5,5,5,5,5,5,5,5,5,5,5,5,5,5,6,6,6,6,6,6,6,6,6,6,6,6,6,6,6,6,6,6,6,6,6,6,6,6,6,6,6,6,6,6,6,6,7,7,7,7,7,7,7,7,7,7,7,7,7,7,7,7,7,7,7,7,7,7,7,7,7,7,7,7,7,7,7,7,7,7,7,7,7,7,7,7,7,7,7,7,7,7,7,7,7,7,7,7,7,7,7,7,7,7,7,7,7,7,7,7,8,8,8,8,8,8,8,8,8,8,8,8,8,8,8,8,8,8,8,8,8,8,8,8,8,8,8,8,8,8,8,8,8,8,8,8,8,8,8,8,8,8,8,8,8,8,8,8,8,8,8,8,8,8,8,8,8,8,8,8,8,8,8,8,8,8,8,8,8,8,8,8,8,8,8,8,8,8,8,8,8,8,8,8,8,8,8,8,8,8,8,8,8,8,8,8,8,8,8,8,8,8,8,8,8,8,8,8,8,8,8,8,8,8,8,8,8,8,8,8,8,8,8,8,8,8,8,8]⟩
def Len8 (v t:Int):Prop:=(v=0∧t=0)∨(v=1∧t=1)∨(2≤v∧v<4∧t=2)∨(4≤v∧v<8∧t=3)∨(8≤v∧v<16∧t=4)∨(16≤v∧v<32∧t=5)∨(32≤v∧v<64∧t=6)∨(64≤v∧v<128∧t=7)∨(128≤v∧v<256∧t=8)
set_option maxRecDepth 100000 in
theorem Zbl:(len8.size:Int)=256:=by rfl
set_option maxRecDepth 100000 in
theorem len8_nat:∀ k:Nat,k<256→Len8 k (bt len8 k):=by
 have h:∀ k:Fin 256,((k.val:Int)=0∧bt len8 k.val=0)∨((k.val:Int)=1∧bt len8 k.val=1)∨(2≤(k.val:Int)∧(k.val:Int)<4∧bt len8 k.val=2)∨(4≤(k.val:Int)∧(k.val:Int)<8∧bt len8 k.val=3)∨(8≤(k.val:Int)∧(k.val:Int)<16∧bt len8 k.val=4)∨(16≤(k.val:Int)∧(k.val:Int)<32∧bt len8 k.val=5)∨(32≤(k.val:Int)∧(k.val:Int)<64∧bt len8 k.val=6)∨(64≤(k.val:Int)∧(k.val:Int)<128∧bt len8 k.val=7)∨(128≤(k.val:Int)∧(k.val:Int)<256∧bt len8 k.val=8):=by decide +kernel
 exact fun k hk=>h ⟨k,hk⟩
theorem len8_tab {v:Int} (h0:0≤v) (h1:v<256):Len8 v (bt len8 v):=by
 have:=len8_nat v.toNat (by omega)
 rwa [Int.toNat_of_nonneg h0] at this
theorem u8_id {v:Int} (h0:0≤v) (h1:v<256):u8.wrap v=v:=by
 simp only[IntKind.wrap,IntKind.signed,IntKind.bits];simp;omega
theorem Z8v {v n:Int} (h0:0≤v) (h1:v<256) (hn:0≤n∧n≤56):((chk (0≤(u8.wrap (v))∧(u8.wrap (v))<((len8.size:Nat):Int)))>>=fun _=>some (i64.wrap (n+(i64.wrap (bt len8 (u8.wrap (v)))))))=some (n+bt len8 v)∧Len8 v (bt len8 v):=by
 have L:=len8_tab h0 h1;have hb:0≤bt len8 v∧bt len8 v≤8:=by unfold Len8 at L;omega
 rw[u8_id h0 h1,chkB ⟨h0,by rw[Zbl];exact h1⟩,Zh (n:=bt len8 v) (by omega) (by omega),Zh (by omega) (by omega)];exact⟨rfl,L⟩
theorem lz_spec {y:Int} (h0:0<y) (h1:y<18446744073709551616):∃ s:Nat,s≤63∧Z25.f y=some (s:Int)∧9223372036854775808≤y*2 ^ s∧y*2 ^ s<18446744073709551616:=by
 have fin:∀ (n v t:Int),0<v→Len8 v t→(Z49.f y=some (n+t))→(n=0∨n=8∨n=16∨n=24∨n=32∨n=40∨n=48∨n=56)→(∀ P:Int,P=2 ^ n.toNat→v*P≤y∧y<v*P+P)→∃ s:Nat,s≤63∧Z25.f y=some (s:Int)∧9223372036854775808≤y*2 ^ s∧y*2 ^ s<18446744073709551616:=by
  intro n v t hv hL he hn hP;have hP:=hP _ rfl;refine⟨(64-(n+t)).toNat,?_,?_,?_⟩
  ·unfold Len8 at hL
   rcases hn with rfl | rfl | rfl | rfl | rfl | rfl | rfl | rfl<;>rcases hL with ⟨rfl,rfl⟩ | ⟨rfl,rfl⟩ | ⟨a,b,rfl⟩ | ⟨a,b,rfl⟩ | ⟨a,b,rfl⟩ | ⟨a,b,rfl⟩ | ⟨a,b,rfl⟩ | ⟨a,b,rfl⟩ | ⟨a,b,rfl⟩<;>simp at hP ⊢<;>omega
  ·unfold                   Z25.f
   rw[he,sb];have:0≤t∧t≤8:=by unfold Len8 at hL;omega
   rw[Zh (by omega) (by omega)];congr 1;omega
  ·unfold Len8 at hL
   rcases hn with rfl | rfl | rfl | rfl | rfl | rfl | rfl | rfl<;>rcases hL with ⟨rfl,rfl⟩ | ⟨rfl,rfl⟩ | ⟨a,b,rfl⟩ | ⟨a,b,rfl⟩ | ⟨a,b,rfl⟩ | ⟨a,b,rfl⟩ | ⟨a,b,rfl⟩ | ⟨a,b,rfl⟩ | ⟨a,b,rfl⟩<;>simp at hP ⊢<;>omega
 have E:Z49.f y=((if(decide (y≥(4294967296:Int)))=true then(some (Int.fdiv y 4294967296,32)) else(some (y,0))):Option (Int×Int))>>=fun oo=>match oo with | (x1216,x1217)=>(((if(decide (x1216≥(65536:Int)))=true then(some (Int.fdiv x1216 65536,i64.wrap (x1217+(16:Int)))) else(some (x1216,x1217))):Option (Int×Int))>>=fun oo=>match oo with | (x1219,x1220)=>(((if(decide (x1219≥(256:Int)))=true then(some (Int.fdiv x1219 256,i64.wrap (x1220+(8:Int)))) else(some (x1219,x1220))):Option (Int×Int))>>=fun oo=>match oo with | (x1222,x1223)=>((chk (0≤(u8.wrap (x1222))∧(u8.wrap (x1222))<((len8.size:Nat):Int)))>>=fun _=>some (i64.wrap (x1223+(i64.wrap (bt len8 (u8.wrap (x1222))))))))):=rfl
 have st1:∃ v n,((if(decide (y≥(4294967296:Int)))=true then(some (Int.fdiv y 4294967296,32)) else(some (y,0))):Option (Int×Int))=some (v,n)∧((n=32∧v=y / 4294967296)∨(n=0∧v=y))∧0<v∧v<4294967296:=by
  by_cases h:y≥4294967296
  ·exact⟨_,_,by rw[if_pos (by simpa using h),Z8i _ (by decide)],.inl ⟨rfl,rfl⟩,by omega,by omega⟩
  ·exact⟨_,_,by rw[if_neg (by simpa using h)],.inr ⟨rfl,rfl⟩,by omega,by omega⟩
 obtain⟨v1,n1,e1,c1,a1,b1⟩:=st1;have st2:∃ v n,((if(decide (v1≥(65536:Int)))=true then(some (Int.fdiv v1 65536,i64.wrap (n1+(16:Int)))) else(some (v1,n1))):Option (Int×Int))=some (v,n)∧((n=n1+16∧v=v1 / 65536)∨(n=n1∧v=v1))∧0<v∧v<65536:=by
  by_cases h:v1≥65536
  ·exact⟨_,_,by rw[if_pos (by simpa using h),Z8i _ (by decide),Zh (by omega) (by omega)],.inl ⟨rfl,rfl⟩,by omega,by omega⟩
  ·exact⟨_,_,by rw[if_neg (by simpa using h)],.inr ⟨rfl,rfl⟩,by omega,by omega⟩
 obtain⟨v2,n2,e2,c2,a2,b2⟩:=st2;have st3:∃ v n,((if(decide (v2≥(256:Int)))=true then(some (Int.fdiv v2 256,i64.wrap (n2+(8:Int)))) else(some (v2,n2))):Option (Int×Int))=some (v,n)∧((n=n2+8∧v=v2 / 256)∨(n=n2∧v=v2))∧0<v∧v<256:=by
  by_cases h:v2≥256
  ·exact⟨_,_,by rw[if_pos (by simpa using h),Z8i _ (by decide),Zh (by omega) (by omega)],.inl ⟨rfl,rfl⟩,by omega,by omega⟩
  ·exact⟨_,_,by rw[if_neg (by simpa using h)],.inr ⟨rfl,rfl⟩,by omega,by omega⟩
 obtain⟨v3,n3,e3,c3,a3,b3⟩:=st3;obtain⟨e4,L⟩:=Z8v (Int.le_of_lt a3) b3 (n:=n3) (by omega);rw[e1,sb] at E;simp only at E;rw[e2,sb] at E;simp only at E;rw[e3,sb] at E;simp only at E;rw[e4] at E;refine fin n3 v3 _ a3 L E (by omega) ?_;intro P hP;rcases c1 with ⟨rfl,rfl⟩ | ⟨rfl,rfl⟩<;>rcases c2 with ⟨rfl,rfl⟩ | ⟨rfl,rfl⟩<;>rcases c3 with ⟨rfl,rfl⟩ | ⟨rfl,rfl⟩<;>simp at hP<;>subst hP<;>omega
theorem or_parts {a b:Int} {s:Nat} (hs:s≤64) (ha:0≤a) (hb:0≤b∧b<2 ^ s) (hab:a*2 ^ s+b<18446744073709551616):(((BitVec.ofInt 64 (a*2 ^ s) ||| BitVec.ofInt 64 b).toNat:Nat):Int)=a*2 ^ s+b:=by
 obtain⟨a,rfl⟩:=Int.eq_ofNat_of_zero_le ha;obtain⟨b,rfl⟩:=Int.eq_ofNat_of_zero_le hb.1;have hb2:b<2 ^ s:=by
  have:(b:Int)<((2 ^ s:Nat):Int):=by rw[Int.natCast_pow];exact hb.2
  omega
 have hab':a*2 ^ s+b<18446744073709551616:=by
  have:((a*2 ^ s+b:Nat):Int)<18446744073709551616:=by rw[Int.natCast_add,Int.natCast_mul,Int.natCast_pow];exact hab
  omega
 rw[BitVec.toNat_or,BitVec.toNat_ofInt,BitVec.toNat_ofInt];have e1:(((a:Int)*2 ^ s) % ((2 ^ 64:Nat):Int)).toNat=a*2 ^ s:=by
  have:((a:Int)*2 ^ s)=((a*2 ^ s:Nat):Int):=by rw[Int.natCast_mul,Int.natCast_pow];rfl
  rw[this];omega
 have e2:((b:Int) % ((2 ^ 64:Nat):Int)).toNat=b:=by omega
 rw[e1,e2,Nat.mul_comm a,← Nat.two_pow_add_eq_or_of_lt hb2];rw[Int.natCast_add,Int.natCast_mul,Int.natCast_pow,Int.mul_comm];rfl
theorem Zcv {N Y q r:Int} (h:N=Y*q+r) (h0:0≤r) (h1:r<Y):N / Y=q∧N % Y=r:=by
 have:=(Int.ediv_emod_unique (a:=N) (b:=Y) (r:=r) (q:=q) (by omega)).2 ⟨by omega,h0,h1⟩;exact this
theorem div64 {hi lo y:Int} (hy:0<y) (hy2:y<18446744073709551616) (h0:0≤hi) (h1:hi<y) (hl:U64 lo) :
  Z0r.f hi lo y=some ((hi*18446744073709551616+lo) / y,(hi*18446744073709551616+lo) % y):=by
 have l0:=hl.1;have l1:=hl.2;unfold Z0r.f;rw[if_neg (by simp;omega),if_neg (by simp;omega)];by_cases hz:hi=0
 ·rw[if_pos (by simpa using hz),chkB (by omega),Int.tdiv_eq_ediv_of_nonneg l0,Int.tmod_eq_emod_of_nonneg l0]
  have q1:=Int.ediv_le_self y l0;have q0:0≤lo / y:=Int.ediv_nonneg l0 (by omega);rw[Z28 q0 (by omega),hz];simp
 rw[if_neg (by simpa using hz)];obtain⟨s,hs,es,n0,n1⟩:=lz_spec hy hy2;rw[es,sb];have us:u64.wrap (s:Int)=s:=Z28 (by omega) (by omega);have m1:min (Int.toNat (u64.wrap (s:Int))) 64=s:=by rw[us];omega
 have m2:min (Int.toNat (u64.wrap ((64:Int)-(u64.wrap (s:Int))))) 64=64-s:=by rw[us,Z28 (by omega) (by omega)];omega
 rw[chkB (by rw[us];omega),chkB (by rw[us,Z28 (by omega) (by omega)];omega)];have hP:(0:Int)<2 ^ s:=Int.pow_pos (by decide);obtain⟨P,eP⟩:∃ P:Int,P=2 ^ s:=⟨_,rfl⟩
 obtain⟨Q,eQ⟩:∃ Q:Int,Q=2 ^ (64-s):=⟨_,rfl⟩
 have hQ:0<Q:=by rw[eQ];exact Int.pow_pos (by decide)
 have hPQ:P*Q=18446744073709551616:=by
  rw[eP,eQ,← Int.pow_add,show s+(64-s)=64 by omega];rfl
 rw[← eP] at hP n0 n1;obtain⟨Y,eY⟩:∃ Y,Y=y*P:=⟨_,rfl⟩
 obtain⟨b,eb⟩:∃ b,b=lo / Q:=⟨_,rfl⟩
 obtain⟨c,ec⟩:∃ c,c=lo % Q:=⟨_,rfl⟩
 have hc0:0≤c:=by rw[ec];exact Int.emod_nonneg _ (by omega)
 have hc1:c<Q:=by rw[ec];exact Int.emod_lt_of_pos _ hQ
 have hlo:lo=Q*b+c:=by rw[eb,ec];exact(Int.mul_ediv_add_emod lo Q).symm
 have hb0:0≤b:=by rw[eb];exact Int.ediv_nonneg l0 (by omega)
 have hb1:b<P:=by rw[eb];exact Int.ediv_lt_of_lt_mul hQ (by rw[hPQ];exact l1)
 obtain⟨X,eX⟩:∃ X,X=c*P:=⟨_,rfl⟩
 have hX0:0≤X:=by rw[eX];exact Int.mul_nonneg hc0 (by omega)
 have hX1:X<18446744073709551616:=by
  rw[eX,← hPQ,Int.mul_comm P];exact Int.mul_lt_mul_of_pos_right hc1 hP
 have hloP:lo*P=b*18446744073709551616+X:=by
  rw[hlo,Int.add_mul,eX,← hPQ,Int.mul_right_comm,Int.mul_comm (Q*P) b,Int.mul_comm Q P]
 have hhP:hi*P+P≤Y:=by
  have:(hi+1)*P≤y*P:=Int.mul_le_mul_of_nonneg_right (by omega) (by omega);rw[Int.add_mul,Int.one_mul] at this;omega
 have hh0:0≤hi*P:=Int.mul_nonneg h0 (by omega);obtain⟨U,eU⟩:∃ U,U=hi*P+b:=⟨_,rfl⟩
 have hU:0≤U∧U<Y:=by omega
 have nm:Nm Y (Y / 4294967296) (Y % 4294967296):=⟨by omega,by omega,by omega,by omega,by omega⟩
 have tY:u64.wrap (y*2 ^ s)=Y:=by rw[← eP,← eY,Z28 (by omega) (by omega)]
 have tX:u64.wrap (lo*2 ^ s)=X:=by rw[← eP,hloP,Z72];omega
 have tH:u64.wrap (hi*2 ^ s)=hi*2 ^ s:=by rw[← eP,Z28 (by omega) (by omega)]
 have tO:(((BitVec.ofInt 64 (hi*2 ^ s) ||| BitVec.ofInt 64 (Int.fdiv lo (2 ^ (64-s)))).toNat:Nat):Int)=U:=by
  rw[Z8i _ (by rw[← eQ];omega),← eQ,← eb,or_parts (by omega) h0 ⟨hb0,by rw[← eP];exact hb1⟩ (by rw[← eP];omega),← eP,eU]
 have tY1:Int.fdiv Y 4294967296=Y / 4294967296:=Z8i _ (by decide);have tY0:u64.wrap (((BitVec.toNat (BitVec.ofInt 64 Y &&& BitVec.ofInt 64 (4294967295:Int)):Nat):Int))=Y % 4294967296:=by rw[mask32 ⟨by omega,by omega⟩,Z28 (by omega) (by omega)]
 have tX1:Int.fdiv X 4294967296=X / 4294967296:=Z8i _ (by decide);have tX0:u64.wrap (((BitVec.toNat (BitVec.ofInt 64 X &&& BitVec.ofInt 64 (4294967295:Int)):Nat):Int))=X % 4294967296:=by rw[mask32 ⟨by omega,by omega⟩,Z28 (by omega) (by omega)]
 have tU:u64.wrap U=U:=Z28 (by omega) (by omega);simp only[m1,m2,tY,tX,tH,tO,tU,tY1,tY0,tX1,tX0];have d1:0≤X / 4294967296∧X / 4294967296<4294967296:=by omega
 have d0:0≤X % 4294967296∧X % 4294967296<4294967296:=by omega
 have hXX:X=X / 4294967296*4294967296+X % 4294967296:=by omega
 generalize X / 4294967296=x1 at *;generalize X % 4294967296=x0 at *;have b0:=nm.b0;have b1:=nm.b1;have a0:=nm.a0;have a1:=nm.a1;have nmE:=nm.eq;generalize Y / 4294967296=y1 at *;generalize Y % 4294967296=y0 at *;have F0:∀ q r,Z0r.l0 hi lo y s q r=((if(decide (q≥(4294967296:Int)))=true then(some true) else(some (decide ((u64.wrap (q*y0))>(u64.wrap ((u64.wrap ((4294967296:Int)*r))+x1)))))):Option Bool)>>=fun c=>if c=true then(if(decide ((u64.wrap (r+y1))≥(4294967296:Int)))=true then(some (u64.wrap (q-(1:Int)))) else(Z0r.l0 hi lo y s (u64.wrap (q-(1:Int))) (u64.wrap (r+y1)))) else some q:=by
  intro q r;rw[Z0r.l0];simp only[m1,tY,tX,tY1,tY0,tX1]
 have F1:∀ z q r,Z0r.l1 hi lo y s z r q=((if(decide (q≥(4294967296:Int)))=true then(some true) else(some (decide ((u64.wrap (q*y0))>(u64.wrap ((u64.wrap ((4294967296:Int)*r))+x0)))))):Option Bool)>>=fun c=>if c=true then(if(decide ((u64.wrap (r+y1))≥(4294967296:Int)))=true then(some (u64.wrap (q-(1:Int)))) else(Z0r.l1 hi lo y s z (u64.wrap (r+y1)) (u64.wrap (q-(1:Int))))) else some q:=by
  intro z q r;rw[Z0r.l1];simp only[m1,tY,tX,tY1,tY0,tX0]
 have start:∀ V:Int,0≤V→V<Y→u64.wrap (Int.tdiv V y1)=V / y1∧u64.wrap (V-u64.wrap (u64.wrap (Int.tdiv V y1)*y1))=V-V / y1*y1:=by
  intro V h0 h1;have q0:0≤V / y1:=Int.ediv_nonneg h0 (by omega);have q1:V / y1≤V:=Int.ediv_le_self y1 h0;have e1:u64.wrap (Int.tdiv V y1)=V / y1:=by rw[Int.tdiv_eq_ediv_of_nonneg h0,Z28 q0 (by omega)]
  refine⟨e1,?_⟩;have m0:=Int.emod_nonneg V (show y1≠0 by omega);have e:=Int.mul_ediv_add_emod V y1;have e':V / y1*y1=y1*(V / y1):=Int.mul_comm _ _;have p0:0≤V / y1*y1:=Int.mul_nonneg q0 (by omega);rw[e1,Z28 (n:=V / y1*y1) p0 (by omega),Z28 (by omega) (by omega)]
 obtain⟨g1,g2⟩:=start U hU.1 hU.2;rw[chkB (by omega),g2,g1];obtain⟨q1,eq1⟩:∃ q,q=(U*4294967296+x1) / Y:=⟨_,rfl⟩
 have L0:=est_loop nm hU d1 (fun q r=>Z0r.l0 hi lo y s q r) F0 _ _ _ (Nat.le_refl _) (est_start nm hU d1);rw[← eq1] at L0;have L0':Z0r.l0 hi lo y s (U / y1) (U-U / y1*y1)=some q1:=L0;rw[L0',sb,chkB (by omega)];obtain⟨V,eV⟩:∃ V,V=(U*4294967296+x1) % Y:=⟨_,rfl⟩
 have Yp:=nm.pos;have V0:0≤V:=by rw[eV];exact Int.emod_nonneg _ (by omega)
 have V1:V<Y:=by rw[eV];exact Int.emod_lt_of_pos _ Yp
 have E1:U*4294967296+x1=Y*q1+V:=by rw[eq1,eV];exact(Int.mul_ediv_add_emod _ Y).symm
 have q1lt:q1<4294967296:=by rw[eq1];exact est_big (q:=0) (r:=0) nm hU d1
 have q1nn:0≤q1:=by rw[eq1];exact Int.ediv_nonneg (by omega) (by omega)
 have cm:q1*Y=Y*q1:=Int.mul_comm _ _;have tV:u64.wrap (u64.wrap (u64.wrap (U*4294967296)+x1)-u64.wrap (q1*Y))=V:=by
  rw[uu_add,uu_sub,Z28 (by omega) (by omega)];omega
 rw[tV];obtain⟨k1,k2⟩:=start V V0 V1;rw[k2,k1];obtain⟨q0,eq0⟩:∃ q,q=(V*4294967296+x0) / Y:=⟨_,rfl⟩
 have L1:=est_loop nm ⟨V0,V1⟩ d0 (fun q r=>Z0r.l1 hi lo y s q1 r q) (F1 q1) _ _ _ (Nat.le_refl _) (est_start nm ⟨V0,V1⟩ d0);rw[← eq0] at L1;have L1':Z0r.l1 hi lo y s q1 (V-V / y1*y1) (V / y1)=some q0:=L1;rw[L1',sb,chkB (by rw[us];omega)];obtain⟨W,eW⟩:∃ W,W=(V*4294967296+x0) % Y:=⟨_,rfl⟩
 have W0:0≤W:=by rw[eW];exact Int.emod_nonneg _ (by omega)
 have W1:W<Y:=by rw[eW];exact Int.emod_lt_of_pos _ Yp
 have E2:V*4294967296+x0=Y*q0+W:=by rw[eq0,eW];exact(Int.mul_ediv_add_emod _ Y).symm
 have q0lt:q0<4294967296:=by rw[eq0];exact est_big (q:=0) (r:=0) nm ⟨V0,V1⟩ d0
 have q0nn:0≤q0:=by rw[eq0];exact Int.ediv_nonneg (by omega) (by omega)
 have cm2:q0*Y=Y*q0:=Int.mul_comm _ _;have tW:u64.wrap (u64.wrap (u64.wrap (V*4294967296)+x0)-u64.wrap (q0*Y))=W:=by
  rw[uu_add,uu_sub,Z28 (by omega) (by omega)];omega
 rw[tW,Z28 (n:=q1*4294967296) (by omega) (by omega),Z28 (n:=q1*4294967296+q0) (by omega) (by omega),Z8i _ (by rw[← eP];omega),← eP];obtain⟨M,eM⟩:∃ M,M=hi*18446744073709551616+lo:=⟨_,rfl⟩
 have hN:M*P=Y*(q1*4294967296+q0)+W:=by
  have e1:M*P=hi*P*18446744073709551616+(b*18446744073709551616+X):=by rw[eM,Int.add_mul,hloP,Int.mul_right_comm]
  have e2:Y*(q1*4294967296+q0)=Y*q1*4294967296+Y*q0:=by rw[Int.mul_add,← Int.mul_assoc]
  omega
 have r0:0≤M % y:=Int.emod_nonneg _ (by omega);have r1:M % y<y:=Int.emod_lt_of_pos _ hy;have hN2:M*P=Y*(M / y)+M % y*P:=by
  have:=Int.mul_ediv_add_emod M y
  calc M*P=(y*(M / y)+M % y)*P:=by rw[this]
   _=Y*(M / y)+M % y*P:=by rw[Int.add_mul,eY,Int.mul_right_comm]
 have u1:=Zcv hN W0 W1;have u2:=Zcv hN2 (Int.mul_nonneg r0 (by omega)) (by rw[eY];exact Int.mul_lt_mul_of_pos_right r1 hP);rw[← eM];have f1:q1*4294967296+q0=M / y:=u1.1.symm.trans u2.1;have f2:W=M % y*P:=u1.2.symm.trans u2.2;rw[f1,f2,Int.mul_ediv_cancel _ (by omega)]
end Go.Proofs.YtcilcefjcaimoaaGreat.PvGQ
namespace Go.Proofs.YtcilcefjcaimoaaGreat.PvGQ
open Go Go.Pv Go.Pv.GS Go.IntKind
def tot:List Z0→Int→Int
 | [],_=>0
 | b::l,i=>(if b.f0=i then b.f1 else 0)+tot l i
abbrev Nn (l:List Z0):Prop:=∀ b∈l,0≤b.f1
theorem Z1x (a b:List Z0) (i:Int):tot (a++b) i=tot a i+tot b i:=by
 induction a with
 | nil=>simp[tot]
 | cons x a ih=>simp only[List.cons_append,tot,ih];omega
theorem Z9g (b:Z0) (i:Int):tot [b] i=if b.f0=i then b.f1 else 0:=by simp[tot]
theorem Z63 {l:List Z0} (h:Nn l) (i:Int):0≤tot l i:=by
 induction l with
 | nil=>simp[tot]
 | cons b l ih =>
  have:=h b (by simp);have:=ih (fun y hy=>h y (by simp[hy]));rw[tot];split<;>omega
theorem tot_zero {l:List Z0} {i:Int} (h:∀ b∈l,b.f0≠i):tot l i=0:=by
 induction l with
 | nil=>rfl
 | cons b l ih=>rw[tot,if_neg (h b (by simp)),ih (fun y hy=>h y (by simp[hy]))];rfl
theorem tot_mem {l:List Z0} (h:Nn l) {b:Z0} (hb:b∈l):b.f1≤tot l b.f0:=by
 induction l with
 | nil=>simp at hb
 | cons y l ih =>
  have h1:=h y (by simp);have h2:=Z63 (l:=l) (fun z hz=>h z (by simp[hz])) b.f0;rw[tot];rcases List.mem_cons.1 hb with rfl | hb
  ·simp;omega
  ·have:=ih (fun z hz=>h z (by simp[hz])) hb
   split<;>omega
theorem tot_perm {a b:List Z0} (h:a.Perm b) (i:Int):tot a i=tot b i:=by
 induction h with
 | nil=>rfl
 | cons x _ ih=>simp only[tot,ih]
 | swap x y l=>simp only[tot];omega
 | trans _ _ h1 h2=>exact h1.trans h2
structure Z3v (l:List Z0):Prop where
 up:l.Pairwise (fun a b=>a.f0<b.f0)
 pos:∀ b∈l,0<b.f1
theorem Z3v.nn {l:List Z0} (h:Z3v l):Nn l:=fun b hb=>Int.le_of_lt (h.pos b hb)
theorem Z3v.tail {x:Z0} {l:List Z0} (h:Z3v (x::l)):Z3v l:=⟨(List.pairwise_cons.1 h.up).2,fun b hb=>h.pos b (by simp[hb])⟩
theorem Z3v.tot_head {x:Z0} {l:List Z0} (h:Z3v (x::l)):tot (x::l) x.f0=x.f1:=by
 rw[tot,tot_zero (fun b hb=>by have:=(List.pairwise_cons.1 h.up).1 b hb;omega)];simp
theorem Z3v.tot_low {x:Z0} {l:List Z0} (h:Z3v (x::l)) {i:Int} (hi:i<x.f0):tot (x::l) i=0 :=
 tot_zero (fun b hb=>by
  rcases List.mem_cons.1 hb with rfl | hb
  ·omega
  ·have:=(List.pairwise_cons.1 h.up).1 b hb;omega)
theorem Z3v.tot_of {l:List Z0} (h:Z3v l) {b:Z0} (hb:b∈l):tot l b.f0=b.f1:=by
 induction l with
 | nil=>simp at hb
 | cons x l ih =>
  rcases List.mem_cons.1 hb with rfl | hb
  ·exact h.tot_head
  ·have:=(List.pairwise_cons.1 h.up).1 b hb
   rw[tot,if_neg (by omega),ih h.tail hb];omega
theorem Z2r:∀ {a b:List Z0},Z3v a→Z3v b→(∀ i,tot a i=tot b i)→a=b
 | [],[],_,_,_=>rfl
 | [],y::b,_,hb,h=>by
  have h1:=h y.f0;rw[hb.tot_head] at h1;have:=hb.pos y (by simp);simp[tot] at h1;omega
 | x::a,[],ha,_,h=>by
  have h1:=h x.f0;rw[ha.tot_head] at h1;have:=ha.pos x (by simp);simp[tot] at h1;omega
 | x::a,y::b,ha,hb,h=>by
  have hx:=ha.pos x (by simp);have hy:=hb.pos y (by simp);have e0:x.f0=y.f0:=by
   by_cases h1:x.f0<y.f0
   ·have:=h x.f0;rw[ha.tot_head,hb.tot_low h1] at this;omega
   ·by_cases h2:y.f0<x.f0
    ·have:=h y.f0;rw[hb.tot_head,ha.tot_low h2] at this;omega
    ·omega
  have e1:x.f1=y.f1:=by
   have:=h x.f0;rw[ha.tot_head,e0,hb.tot_head] at this;exact this
  have e:x=y:=by cases x;cases y;simp_all
  subst e;rw[Z2r ha.tail hb.tail (fun i=>by have:=h i;simp only[tot] at this;omega)]
def bLt (a b:Z0):Bool:=decide (a.f0<b.f0)
theorem bLt_swo:SWO bLt:=⟨fun a b h=>by simp[bLt] at *;omega,fun a b c h1 h2=>by simp[bLt] at *;omega⟩
theorem bCmp:Cmp Z2b.f bLt:=fun a b=>by
 refine⟨_,by unfold Z2b.f;rw[compare_int,sb],?_⟩;simp only[bLt];by_cases h1:a.f0<b.f0
 ·simp[h1]
 ·by_cases h2:b.f0<a.f0<;>simp[h1,h2]
theorem sort_inst:Z0j.f=GS.SortStable.f Z2b.f:=by kernel_rfl
theorem Z9v (l:List Z0) (h:l.length<1000000000):Z0h.f l=some l:=by
 unfold Z0h.f;rw[chkB (by simp;omega)]
theorem snoc_at {α:Type} (l:List α) (x:α) (h:l.length<1000000000000):at? (l++[x]) (i64.wrap (((l++[x]).length:Int)-1))=some x:=by
 rw[List.length_append,List.length_singleton,Zh (by omega) (by omega)];exact Z0t (pre:=l) (suf:=[]) rfl (by omega)
theorem snoc_set {α:Type} (l:List α) (x y:α) (h:l.length<1000000000000):(l++[x]).set (Int.toNat (i64.wrap (((l++[x]).length:Int)-1))) y=l++[y]:=by
 rw[List.length_append,List.length_singleton,Zh (by omega) (by omega),show(((l.length+1:Nat):Int)-1).toNat=l.length by omega];simp
structure TidyI (pre out:List Z0):Prop where
 canon:Z3v out
 seen:∀ o∈out,∃ p∈pre,p.f0=o.f0
 tots:∀ i,tot out i=tot pre i
 u64:∀ o∈out,U64 o.f1
 len:out.length≤pre.length
theorem tidy_l0 (l:List Z0) (hl:l.length<1000000000) (hU:∀ b∈l,U64 b.f1) (hs:l.Pairwise (fun a b=>a.f0≤b.f0)):∀ (suf pre out:List Z0) (i:Int),l=pre++suf→i=(pre.length:Int)→TidyI pre out →
  (∃ out',Z1k.l0 l out i=some (.inr out')∧TidyI l out')∨(Z1k.l0 l out i=some (.inl ([],5))∧∃ i,18446744073709551616≤tot l i):=by
 intro suf
 induction suf with
 | nil =>
  intro pre out i h1 hi hI;rw[List.append_nil] at h1;subst h1;rw[Z1k.l0,if_neg (by simp[hi])];exact .inl ⟨out,rfl,hI⟩
 | cons b suf ih =>
  intro pre out i h1 hi hI;have hb:=hU b (by rw[h1];simp);have hlen:l.length=pre.length+(suf.length+1):=by rw[h1];simp
  have holen:out.length≤pre.length:=hI.len;have hle:∀ p∈pre,p.f0≤b.f0:=fun p hp=>by
   rw[h1] at hs;exact(List.pairwise_append.1 hs).2.2 p hp b (by simp)
  have e1:l=(pre++[b])++suf:=by simp[h1]
  have e2:i+1=((pre++[b]).length:Int):=by simp[hi]
  rw[Z1k.l0,if_pos (by rw[h1];simp[hi];omega),Z0t h1 hi,sb,Zh (n:=i+1) (by omega) (by omega)];by_cases h0:b.f1=0
  ·rw[if_pos (by simpa using h0),sb]
   simp only[];exact ih (pre++[b]) out (i+1) e1 e2 ⟨hI.canon,fun o ho=>let ⟨p,hp,e⟩:=hI.seen o ho;⟨p,by simp[hp],e⟩,fun i=>by rw[hI.tots,Z1x,Z9g,h0];simp,hI.u64,by simp;omega⟩
  rw[if_neg (by simpa using h0)];have hnew:(∀ o∈out,o.f0<b.f0)→TidyI (pre++[b]) (out++[b]):=fun hlt =>
   ⟨⟨List.pairwise_append.2 ⟨hI.canon.up, List.pairwise_singleton _ _, fun o ho y hy => by simp at hy; subst hy; exact hlt o ho⟩, fun o ho => by
     rcases List.mem_append.1 ho with ho | ho
     ·exact hI.canon.pos o ho
     ·simp at ho;subst ho;omega⟩,
    fun o ho=>by
     rcases List.mem_append.1 ho with ho | ho
     ·obtain⟨p,hp,e⟩:=hI.seen o ho;exact⟨p,by simp[hp],e⟩
     ·simp at ho;subst ho;exact⟨o,by simp,rfl⟩,
    fun i=>by rw[Z1x,Z1x,hI.tots],
    fun o ho=>by
     rcases List.mem_append.1 ho with ho | ho
     ·exact hI.u64 o ho
     ·simp at ho;subst ho;exact hb,
    by simp;omega⟩
  have happ:∀ (hlt:∀ o∈out,o.f0<b.f0),(∃ out',Z1k.l0 l (out++[b]) (i+1)=some (.inr out')∧TidyI l out')∨(Z1k.l0 l (out++[b]) (i+1)=some (.inl ([],5))∧∃ i,18446744073709551616≤tot l i):=fun hlt =>
   ih (pre++[b]) (out++[b]) (i+1) e1 e2 (hnew hlt)
  have hroom:(out.length+[b].length)*16≤140737488355328:=by simp;omega
  rcases List.eq_nil_or_concat out with rfl | ⟨o',o,rfl⟩
  ·rw[if_neg (by simp),sb,if_neg (by simp),chkB hroom,sb]
   simp only[];exact happ (by simp)
  simp only[List.concat_eq_append] at *;have ho':o'.length<1000000000000:=by simp at holen;omega
  rw[if_pos (by simp),snoc_at _ _ ho',sb,sb];obtain⟨p,hp,hpo⟩:=hI.seen o (by simp);have hob:o.f0≤b.f0:=hpo ▸ hle p hp;have hup:=List.pairwise_append.1 hI.canon.up;by_cases he:o.f0=b.f0
  ·rw[if_pos (by simpa using he),sb,Z6j      (hI.u64 o (by simp)) hb,sb]
   have ho1:=hI.u64 o (by simp);by_cases hov:o.f1+b.f1<18446744073709551616
   ·rw[if_pos hov,if_neg (by simp),sb,snoc_set _ _ _ ho']
    simp only[sb];refine ih (pre++[b]) (o'++[⟨o.f0,o.f1+b.f1⟩]) (i+1) e1 e2 ⟨⟨List.pairwise_append.2 ⟨hup.1,List.pairwise_singleton _ _,fun x hx y hy=>by simp at hy;subst hy;exact hup.2.2 x hx o (by simp)⟩,fun x hx => ?_⟩,fun x hx => ?_,fun i => ?_,fun x hx => ?_,by simp at holen ⊢;omega⟩
    ·rcases List.mem_append.1 hx with hx | hx
     ·exact hI.canon.pos x (by simp[hx])
     ·simp at hx;subst hx;have:=hI.canon.pos o (by simp);simp;omega
    ·rcases List.mem_append.1 hx with hx | hx
     ·obtain⟨p,hp,e⟩:=hI.seen x (by simp[hx]);exact⟨p,by simp[hp],e⟩
     ·simp at hx;subst hx;exact⟨b,by simp,he.symm⟩
    ·have:=hI.tots i
     rw[Z1x,Z9g] at this ⊢;rw[Z1x,Z9g,← this];simp only;rw[← he];split<;>omega
    ·rcases List.mem_append.1 hx with hx | hx
     ·exact hI.u64 x (by simp[hx])
     ·simp at hx;subst hx;exact⟨by simp;omega,hov⟩
   ·rw[if_neg hov,if_pos (by simp),sb]
    simp only[];refine .inr ⟨rfl,b.f0,?_⟩;have h3:=hI.tots b.f0;rw[Z1x,Z9g,if_pos he] at h3;have h4:=Z63 (l:=o') (fun x hx=>hI.canon.nn x (by simp[hx])) b.f0;have h5:=Z63 (l:=suf) (fun x hx=>(hU x (by rw[h1];simp[hx])).1) b.f0;rw[h1,Z1x,tot,if_pos rfl];omega
  ·rw[if_neg (by simpa using he),chkB hroom,sb]
   simp only[];refine happ (fun x hx => ?_);rcases List.mem_append.1 hx with hx | hx
   ·have:=hup.2.2 x hx o (by simp);omega
   ·simp at hx;subst hx;omega
theorem Zb0 (l:List Z0) (hl:l.length<100000000) (hU:∀ b∈l,U64 b.f1) :
  (∃ out,Z1k.f l=some (out,0)∧Z3v out∧(∀ i,tot out i=tot l i)∧(∀ b∈out,U64 b.f1)∧(∀ b∈out,∃ p∈l,p.f0=b.f0)∧out.length≤l.length) ∨
  (Z1k.f l=some ([],5)∧∃ i,18446744073709551616≤tot l i):=by
 unfold Z1k.f;rw[Z9v l (by omega),sb,sort_inst,GS.sorts bCmp bLt_swo l (by omega),sb];have hp:=S_perm (lt:=bLt) l;have hs:(GS.S bLt l).Pairwise (fun a b=>a.f0≤b.f0):=(Z87 bLt_swo l).imp (fun {a b} h=>by simp[bLt] at h;exact h);rcases tidy_l0 (GS.S bLt l) (by rw[Z5v];omega) (fun b hb=>hU b (hp.mem_iff.1 hb)) hs (GS.S bLt l) [] [] 0 rfl rfl ⟨⟨List.Pairwise.nil,by simp⟩,by simp,fun _=>rfl,by simp,by simp⟩ with ⟨out,e,h⟩ | ⟨e,i,h⟩
 ·rw[e]
  exact .inl ⟨out,rfl,h.canon,fun i=>(h.tots i).trans (tot_perm hp i),h.u64,fun b hb=>let ⟨p,hp',e⟩:=h.seen b hb;⟨p,hp.mem_iff.1 hp',e⟩,by have:=h.len;rw[Z5v] at this;exact this⟩
 ·rw[e]
  exact .inr ⟨rfl,i,by rw[← tot_perm hp i];exact h⟩
def cnt (l:List Z0):Int:=(l.map (·.f1)).sum
theorem Z0a {l:List Z0} (h:Nn l):0≤cnt l:=Z5g (fun x hx=>by
 obtain⟨b,hb,rfl⟩:=List.mem_map.1 hx;exact h b hb)
theorem Z51 (b:Z0) (l:List Z0):cnt (b::l)=b.f1+cnt l:=by simp[cnt]
theorem Z4i (a b:List Z0):cnt (a++b)=cnt a+cnt b:=by simp[cnt]
theorem total_l1 (a0:List (List Z0)) (x769:Int) (l:List Z0) (hl:l.length<1000000000):∀ (suf pre:List Z0) (acc i:Int),l=pre++suf→i=(pre.length:Int)→U64 acc→(∀ b∈suf,U64 b.f1) →
  Z14.l1 a0 l x769 acc i=some (if acc+cnt suf<18446744073709551616 then .inr (acc+cnt suf) else .inl (0,5)):=by
 intro suf
 induction suf with
 | nil =>
  intro pre acc i h1 hi ha hs;subst h1;rw[Z14.l1,if_neg (by simp[hi])];simp[cnt,ha.2]
 | cons x suf ih =>
  intro pre acc i h1 hi ha hs;have hx:=hs x (by simp);have hs':∀ y∈suf,U64 y.f1:=fun y hy=>hs y (by simp[hy])
  have hnn:0≤cnt suf:=Z0a (fun y hy=>(hs' y hy).1);have hlen:(l.length:Int)=pre.length+(suf.length+1):=by rw[h1];simp
  rw[Z14.l1,if_pos (by simp;omega),Z0t h1 hi,sb,Z6j ha hx,sb,Zh (by omega) (by omega),Z51];by_cases hov:acc+x.f1<18446744073709551616
  ·rw[if_pos hov,if_neg (by simp),ih (pre++[x]) (acc+x.f1) (i+1) (by simp[h1]) (by simp;omega) ⟨by omega,hov⟩ hs',Int.add_assoc]
  ·rw[if_neg hov,if_pos (by simp),if_neg (by omega)]
theorem total_l0 (a0:List (List Z0)) (ha0:a0.length<1000000000):∀ (suf pre:List (List Z0)) (acc i:Int),a0=pre++suf→i=(pre.length:Int)→U64 acc→(∀ l∈suf,l.length<1000000000∧∀ b∈l,U64 b.f1) →
  Z14.l0 a0 acc i=some (if acc+(suf.map cnt).sum<18446744073709551616 then .inr (acc+(suf.map cnt).sum) else .inl (0,5)):=by
 intro suf
 induction suf with
 | nil =>
  intro pre acc i h1 hi ha hs;subst h1;rw[Z14.l0,if_neg (by simp[hi])];simp[ha.2]
 | cons x suf ih =>
  intro pre acc i h1 hi ha hs;have hx:=hs x (by simp);have hs':∀ l∈suf,l.length<1000000000∧∀ b∈l,U64 b.f1:=fun y hy=>hs y (by simp[hy])
  have hx0:0≤cnt x:=Z0a (fun y hy=>(hx.2 y hy).1);have hnn:0≤(suf.map cnt).sum:=Z5g (fun y hy=>by
   obtain⟨l,hl,rfl⟩:=List.mem_map.1 hy;exact Z0a (fun y hy=>((hs' l hl).2 y hy).1))
  have hlen:(a0.length:Int)=pre.length+(suf.length+1):=by rw[h1];simp
  rw[Z14.l0,if_pos (by simp;omega),Z0t h1 hi,sb,total_l1 a0 i x hx.1 x [] acc 0 rfl rfl ha hx.2,sb,Zh (by omega) (by omega),List.map_cons,List.sum_cons];by_cases hov:acc+cnt x<18446744073709551616
  ·rw[if_pos hov]
   simp only[];rw[ih (pre++[x]) (acc+cnt x) (i+1) (by simp[h1]) (by simp;omega) ⟨by omega,hov⟩ hs',Int.add_assoc]
  ·rw[if_neg hov,if_neg (by omega)]
theorem total3 (p n:List Z0) (z:Int) (hp:p.length<1000000000) (hn:n.length<1000000000) (hpU:∀ b∈p,U64 b.f1) (hnU:∀ b∈n,U64 b.f1) (hz:U64 z) :
  Z14.f [p,n,[(⟨0,z⟩:Z0)]]=some (if cnt p+cnt n+z<18446744073709551616 then(cnt p+cnt n+z,0) else(0,5)):=by
 unfold Z14.f;rw[total_l0 [p,n,[(⟨0,z⟩:Z0)]] (by simp) [p,n,[(⟨0,z⟩:Z0)]] [] 0 0 rfl rfl (by omega) (by
  intro l hl;simp only[List.mem_cons,List.not_mem_nil,or_false] at hl;rcases hl with rfl | rfl | rfl
  ·exact⟨hp,hpU⟩
  ·exact⟨hn,hnU⟩
  ·exact⟨by simp,by simp;exact hz⟩),sb]
 have e:0+(([p,n,[(⟨0,z⟩:Z0)]]:List (List Z0)).map cnt).sum=cnt p+cnt n+z:=by simp[cnt];omega
 rw[e];by_cases h:cnt p+cnt n+z<18446744073709551616
 ·rw[if_pos h,if_pos h]
 ·rw[if_neg h,if_neg h]
theorem right_eq (s:Int):Z0g.f s=some (decide (-4≤s)&&decide (s≤8)):=by
 unfold Z0g.f;rw[ifand];rfl
def Z19 (s:Int):Prop:=-4≤s∧s≤8
instance (s:Int):Decidable (Z19 s):=inferInstanceAs (Decidable (_∧_))
theorem Z6n {s:Int} (h:Z19 s):Z0g.f s=some true:=by rw[right_eq];simp[h.1,h.2]
theorem right_F {s:Int} (h:¬ Z19 s):Z0g.f s=some false:=by rw[right_eq];simp[Z19] at h ⊢;omega
def stp (s:Int):Int:=2 ^ (8-s).toNat
theorem Z56 (s:Int):0<stp s:=by unfold stp;exact Int.pow_pos (by omega)
theorem stp_le {s:Int} (h:Z19 s):stp s≤4096:=by
 have h1:=h.1;have h2:=h.2;have:s = -4∨s = -3∨s = -2∨s = -1∨s=0∨s=1∨s=2∨s=3∨s=4∨s=5∨s=6∨s=7∨s=8:=by omega
 rcases this with rfl | rfl | rfl | rfl | rfl | rfl | rfl | rfl | rfl | rfl | rfl | rfl | rfl<;>decide
theorem shift_eq {s:Int} (h:Z19 s):min (Int.toNat (u64.wrap (i64.wrap ((8:Int)-s)))) 64=(8-s).toNat:=by
 have h1:=h.1;have h2:=h.2;rw[Zh (by omega) (by omega),Z28 (by omega) (by omega)];omega
theorem most_T {s:Int} (h:Z19 s):Z48.f s=some (262144 / stp s):=by
 unfold Z48.f Z3z.f;rw[Z6n h,sb,if_neg (by simp),sb,chkB (Zan _).1,shift_eq h,Int.fdiv_eq_ediv_of_nonneg _ (by exact Int.le_of_lt (Z56 s))];rfl
theorem units_T {s i:Int} (h:Z19 s) (hi : -1000000000000<i∧i<1000000000000):Z1f.f s i=some (i*stp s):=by
 unfold Z1f.f Z3z.f;rw[Z6n h,sb,if_neg (by simp),sb,chkB (Zan _).1,shift_eq h];have h1:=Z56 s;have h2:=stp_le h;have h3:i*stp s≤1000000000000*4096:=by
  by_cases h0:0≤i
  ·exact Int.mul_le_mul (by omega) h2 (by omega) (by omega)
  ·have:i*stp s≤0:=Int.mul_nonpos_of_nonpos_of_nonneg (by omega) (by omega);omega
 have h4 : -(1000000000000*4096)≤i*stp s:=by
  by_cases h0:0≤i
  ·have:0≤i*stp s:=Int.mul_nonneg h0 (by omega);omega
  ·have : -i*stp s≤1000000000000*4096:=Int.mul_le_mul (by omega) h2 (by omega) (by omega)
   rw[Int.neg_mul] at this;omega
 show some (i64.wrap (i*stp s))=_;rw[Zh (by omega) (by omega)]
theorem Zbt (h:Z1):Z1m.l0 h 0=((Z18.f h h.f6)>>=fun t=>if(t != (0:Int))=true then some (.inl t) else(Z18.f h h.f7)>>=fun t=>if(t != (0:Int))=true then some (.inl t) else some (.inr ())):=by
 have w1:i64.wrap (0+1)=1:=by decide
 have w2:i64.wrap (1+1)=2:=by decide
 rw[Z1m.l0,if_pos (by decide),chkB (by omega),if_pos (by decide),sb,w1];congr 1;funext t;split
 ·rfl
 ·rw[         Z1m.l0,if_pos (by decide),chkB (by omega),if_neg (by decide),sb,w2]
  congr 1;funext t;split
  ·rfl
  ·rw[Z1m.l0,if_neg (by decide)]
structure Fits (h:Z1):Prop where
 kind:I64 h.f0
 schema:I64 h.f1
 zeroAt:I64 h.f2
 zero:U64 h.f3
 count:U64 h.f4
 sum:I64 h.f5
 pos:∀ b∈h.f6,I64 b.f0∧U64 b.f1
 neg:∀ b∈h.f7,I64 b.f0∧U64 b.f1
theorem fits_of {h:Z1} (r:RHist h):Fits h:=⟨r.r0,r.r1,r.r2,r.r3,r.r4,r.r5,fun b hb=>let q:=r.r6.2 b hb;⟨q.r0,q.r1⟩,fun b hb=>let q:=r.r7.2 b hb;⟨q.r0,q.r1⟩⟩
theorem Zct (l:List Z0) (hl:l.length<1000000000):Z00.f l l=some true:=by
 unfold Z00.f;rw[if_neg (by simp)];have:∀ (suf pre:List Z0) (i:Int),l=pre++suf→i=(pre.length:Int)→Z00.l0 l l i=some (.inr ()):=by
  intro suf
  induction suf with
  | nil=>intro pre i h1 hi;subst h1;rw[Z00.l0,if_neg (by simp[hi])]
  | cons x suf ih =>
   intro pre i h1 hi;have hlen:(l.length:Int)=pre.length+(suf.length+1):=by rw[h1];simp
   rw[Z00.l0,if_pos (by simp;omega),Z0t h1 hi,sb,sb,if_neg (by simp),Zh (by omega) (by omega)];exact ih (pre++[x]) (i+1) (by simp[h1]) (by simp;omega)
 rw[this l [] 0 rfl rfl];rfl
theorem same_self (h:Z1) (hp:h.f6.length<1000000000) (hn:h.f7.length<1000000000):Z43.f h h=some true:=by
 unfold Z43.f;rw[Zct _ hp,Zct _ hn];simp[sb]
theorem stp_dvd {s:Int} (h:Z19 s):262144 / stp s*stp s=262144:=by
 have h1:=h.1;have h2:=h.2;have:s = -4∨s = -3∨s = -2∨s = -1∨s=0∨s=1∨s=2∨s=3∨s=4∨s=5∨s=6∨s=7∨s=8:=by omega
 rcases this with rfl | rfl | rfl | rfl | rfl | rfl | rfl | rfl | rfl | rfl | rfl | rfl | rfl<;>decide
def InS (s i:Int):Prop:=-262144<i*stp s∧i*stp s≤262144
instance (s i:Int):Decidable (InS s i):=inferInstanceAs (Decidable (_∧_))
theorem inS_iff {s i:Int} (h:Z19 s):InS s i ↔ -(262144 / stp s)+1≤i∧i≤262144 / stp s:=by
 have hp:=Z56 s;have hd:=stp_dvd h;unfold InS;generalize 262144 / stp s=q at *;generalize stp s=st at *;constructor
 ·rintro⟨h1,h2⟩
  constructor
  ·have : -q*st<i*st:=by rw[Int.neg_mul];omega
   have:=Int.lt_of_mul_lt_mul_right this (Int.le_of_lt hp);omega
  ·have:i*st≤q*st:=by omega
   exact Int.le_of_mul_le_mul_right this hp
 ·rintro⟨h1,h2⟩
  constructor
  ·have:=Int.mul_lt_mul_of_pos_right (show -q<i by omega) hp
   rw[Int.neg_mul] at this;omega
  ·have:=Int.mul_le_mul_of_nonneg_right h2 (Int.le_of_lt hp);omega
theorem Z3y {s i:Int} (hi:InS s i) : -262144<i∧i≤262144:=by
 have hp:=Z56 s;obtain⟨h1,h2⟩:=hi;constructor
 ·by_cases h:i ≤ -262144
  ·have:=Int.mul_le_mul_of_nonneg_right h (Int.le_of_lt hp)
   have h3 : -262144*stp s ≤ -262144*1:=by
    have:=Int.mul_le_mul_of_nonneg_left (show 1≤stp s by omega) (show(0:Int)≤262144 by omega);omega
   omega
  ·omega
 ·by_cases h:262144<i
  ·have:=Int.mul_le_mul_of_nonneg_right (show 262145≤i by omega) (Int.le_of_lt hp)
   have h3:=Int.mul_le_mul_of_nonneg_left (show 1≤stp s by omega) (show(0:Int)≤262145 by omega);omega
  ·omega
theorem in_T {s i:Int} (h:Z19 s):Z55.f s i=some (decide (InS s i)):=by
 have hp:=Z56 s;have hq:0≤262144 / stp s∧262144 / stp s≤262144:=⟨Int.ediv_nonneg (by omega) (by omega),Int.ediv_le_self _ (by omega)⟩
 unfold Z55.f Z4t.f;rw[Z6n h,most_T h];simp only[sb,if_pos];rw[Zh (n:=0-_) (by omega) (by omega),Zh (by omega) (by omega),ifand,sb];congr 1;rw[← Bool.decide_and,decide_eq_decide,inS_iff h];constructor<;>intro h<;>constructor<;>omega
theorem low_T {s i:Int} (h:Z19 s) (hi:InS s i):Z36.f s i=some ((i-1)*stp s):=by
 have:=Z3y hi;unfold Z36.f;rw[Zh (by omega) (by omega),units_T h (by omega)];rfl
theorem Zam {s i:Int} (h:Z19 s) (hi:InS s i):Z1f.f s i=some (i*stp s):=by
 have:=Z3y hi;exact units_T h (by omega)
theorem Z57 (s:Int):Z0n.f s=some (decide (Z19 s)):=by
 unfold Z0n.f;rw[ifand,← Bool.decide_and];rfl
theorem ref_step_l0 (s:Int):∀ (n:Nat) (x i:Int),i≤8→8-i=(n:Int) → -4≤i→0≤x→x*2 ^ n≤4096→Z33.l0 x i=some (x*2 ^ n):=by
 intro n
 induction n with
 | zero=>intro x i h1 h2 h3 h4 h5;rw[Z33.l0,if_neg (by simp;omega)];simp
 | succ n ih =>
  intro x i h1 h2 h3 h4 h5;have e:x*2 ^ (n+1)=x*2*2 ^ n:=by rw[Int.pow_succ,Int.mul_assoc,Int.mul_comm 2]
  have hp:(0:Int)<2 ^ n:=Int.pow_pos (by omega);have hle:x*2≤4096:=by
   have:=Int.mul_le_mul_of_nonneg_left (show(1:Int)≤2 ^ n by omega) (show 0≤x*2 by omega);omega
  rw[Z33.l0,if_pos (by simp;omega),Zh (n:=x*2) (by omega) (by omega),Zh (n:=i+1) (by omega) (by omega),ih (x*2) (i+1) (by omega) (by omega) (by omega) (by omega) (by omega),e]
theorem ref_step {s:Int} (h:Z19 s):Z33.f s=some (stp s):=by
 unfold Z33.f;have h1:=h.1;have h2:=h.2;rw[ref_step_l0 s (8-s).toNat 1 s h2 (by omega) h1 (by omega) (by rw[Int.one_mul];exact stp_le h)];simp[stp]
theorem Z4f {s i:Int} (h:Z19 s) (hi : -1000000000000<i∧i<1000000000000):Z0c.f s i=some (i*stp s):=by
 unfold Z0c.f;rw[Z57,sb,if_neg (by simp[h]),ref_step h,sb];have h1:=Z56 s;have h2:=stp_le h;have h3:i*stp s≤1000000000000*4096:=by
  by_cases h0:0≤i
  ·exact Int.mul_le_mul (by omega) h2 (by omega) (by omega)
  ·have:i*stp s≤0:=Int.mul_nonpos_of_nonpos_of_nonneg (by omega) (by omega);omega
 have h4 : -(1000000000000*4096)≤i*stp s:=by
  by_cases h0:0≤i
  ·have:0≤i*stp s:=Int.mul_nonneg h0 (by omega);omega
  ·have : -i*stp s≤1000000000000*4096:=Int.mul_le_mul (by omega) h2 (by omega) (by omega)
   rw[Int.neg_mul] at this;omega
 rw[Zh (by omega) (by omega)]
theorem ref_in {s i:Int} (h:Z19 s) (hi:I64 i):Z6k.f s i=some (decide (InS s i)):=by
 unfold Z6k.f;rw[Z57,sb,if_pos (by simp[h])];by_cases h1:i > -262144
 ·rw[if_pos (by simpa using h1)]
  by_cases h2:i≤262144
  ·rw[if_pos (by simpa using h2),Z4f       h (by omega),sb]
   by_cases h3:i*stp s > -262144
   ·rw[if_pos (by simpa using h3),sb,sb]
    congr 1;rw[decide_eq_decide];exact⟨fun h=>⟨h3,h⟩,fun h=>h.2⟩
   ·rw[if_neg (by simpa using h3),sb]
    have:¬ InS s i:=fun h=>h3 h.1;simp[this]
  ·rw[if_neg (by simpa using h2),sb]
   have:¬ InS s i:=fun h=>by have:=Z3y h;omega
   simp[this]
 ·rw[if_neg (by simpa using h1),sb]
  have:¬ InS s i:=fun h=>by have:=Z3y h;omega
  simp[this]
structure BOk (s z:Int) (b:Z0):Prop where
 ins:InS s b.f0
 pos:0<b.f1
 low:z≤(b.f0-1)*stp s
def Up:Option Int→List Z0→Prop
 | _,[]=>True
 | p,b::l=>(∀ q,p=some q→q<b.f0)∧Up (some b.f0) l
theorem up_iff:∀ (l:List Z0) (p:Option Int),Up p l↔(∀ q,p=some q→∀ b∈l,q<b.f0)∧l.Pairwise (fun a b=>a.f0<b.f0)
 | [],p=>by simp[Up]
 | x::l,p=>by
  rw[Up,up_iff l,List.pairwise_cons];constructor
  ·rintro⟨h1,h2,h3⟩
   refine⟨fun q hq b hb => ?_,fun b hb=>h2 _ rfl b hb,h3⟩;have h4:=h1 q hq;rcases List.mem_cons.1 hb with rfl | hb
   ·exact h4
   ·have:=h2 _ rfl b hb;omega
  ·rintro⟨h1,h2,h3⟩
   exact⟨fun q hq=>h1 q hq x (by simp),fun q hq b hb=>by cases hq;exact h2 b hb,h3⟩
structure Side (s z:Int) (l:List Z0):Prop where
 len:l.length≤512
 ok:∀ b∈l,BOk s z b
 up:l.Pairwise (fun a b=>a.f0<b.f0)
theorem Side.canon {s z:Int} {l:List Z0} (h:Side s z l):Z3v l:=⟨h.up,fun b hb=>(h.ok b hb).pos⟩
structure Z1b (h:Z1):Prop where
 kind:h.f0=0∨h.f0=1
 schema:Z19 h.f1
 zero:h.f2 = -524288∨(-262144<h.f2∧h.f2≤262144)
 pos:Side h.f1 h.f2 h.f6
 neg:Side h.f1 h.f2 h.f7
 total:cnt h.f6+cnt h.f7+h.f3<18446744073709551616
 count:h.f4=cnt h.f6+cnt h.f7+h.f3
theorem last_pre {l pre:List Z0} {x:Z0} {suf:List Z0} {i:Int} (h1:l=pre++x::suf) (hi:i=(pre.length:Int)) (h0:0<i) (hl:l.length<1000000000) :
  ∃ q,(pre.getLast?).map (·.f0)=some q∧∃ y,at? l (i64.wrap (i-1))=some y∧y.f0=q:=by
 rcases List.eq_nil_or_concat pre with rfl | ⟨P,p,rfl⟩
 ·simp at hi;omega
 ·simp only[List.concat_eq_append] at *
  have hlen:l.length=P.length+1+(suf.length+1):=by rw[h1];simp;omega
  have hi2:i=(P.length:Int)+1:=by rw[hi];simp
  rw[Zh (by omega) (by omega)];exact⟨p.f0,by simp,p,Z0t (pre:=P) (suf:=x::suf) (by simp[h1]) (by omega),rfl⟩
theorem no_pre {pre:List Z0} {i:Int} (hi:i=(pre.length:Int)) (h0:¬ 0<i):(pre.getLast?).map (·.f0)=none:=by
 have:pre=[]:=List.length_eq_zero_iff.1 (by omega);subst this;rfl
theorem buckets_l0 (h:Z1) (l:List Z0) (hs:Z19 h.f1) (hl:l.length<1000000000):∀ (suf pre:List Z0) (i:Int),l=pre++suf→i=(pre.length:Int)→(∀ b∈suf,U64 b.f1) →
  ∃ r,Z18.l0 h l i=some r∧(∀ c,r = .inl c→c≠0)∧(r = .inr ()↔(∀ b∈suf,BOk h.f1 h.f2 b)∧Up ((pre.getLast?).map (·.f0)) suf):=by
 intro suf
 induction suf with
 | nil =>
  intro pre i h1 hi _;subst h1;rw[Z18.l0,if_neg (by simp[hi])];exact⟨_,rfl,by simp,by simp[Up]⟩
 | cons x suf ih =>
  intro pre i h1 hi hU;have hx:=hU x (by simp);have hlen:(l.length:Int)=pre.length+(suf.length+1):=by rw[h1];simp
  rw[Z18.l0,if_pos (by simp;omega),Z0t h1 hi,sb,in_T hs,sb];by_cases c1:InS h.f1 x.f0
  case neg =>
   rw[if_pos (by simp[c1])];exact⟨_,rfl,by simp,by simp;intro h;exact absurd h.ins c1⟩
  rw[if_neg (by simp[c1])];have hprev:∃ c:Bool,((if(decide (i>(0:Int)))=true then((at? l (i64.wrap (i-(1:Int))))>>=fun b922=>some (decide (b922.f0≥x.f0))) else(some false)):Option (Bool))=some c∧(c=false↔∀ q,(pre.getLast?).map (·.f0)=some q→q<x.f0):=by
   by_cases h0:0<i
   ·obtain⟨q,e1,y,e2,e3⟩:=last_pre h1 hi h0 hl
    rw[if_pos (by simpa using h0),e2,sb];exact⟨_,rfl,by rw[e1,e3];simp⟩
   ·rw[if_neg (by simpa using h0)]
    exact⟨_,rfl,by rw[no_pre hi h0];simp⟩
  obtain⟨c,ec,hc⟩:=hprev;rw[ec,sb,low_T hs c1];cases c with
  | true =>
   rw[if_pos rfl];refine⟨_,rfl,by simp,by simp;intro _ _ h2;exact absurd (hc.2 h2.1) (by simp)⟩
  | false =>
   rw[if_neg (by simp)];by_cases c2:x.f1=0
   ·rw[if_pos (by simpa using c2)]
    exact⟨_,rfl,by simp,by simp;intro h;have:=h.pos;omega⟩
   rw[if_neg (by simpa using c2),sb];by_cases c3:(x.f0-1)*stp h.f1<h.f2
   ·rw[if_pos (by simpa using c3)]
    exact⟨_,rfl,by simp,by simp;intro h;have:=h.low;omega⟩
   rw[if_neg (by simpa using c3),Zh (n:=i+1) (by omega) (by omega)];obtain⟨r,e,e1,e2⟩:=ih (pre++[x]) (i+1) (by simp[h1]) (by simp;omega) (fun b hb=>hU b (by simp[hb]));refine⟨r,e,e1,?_⟩;rw[e2];simp only[List.getLast?_append,List.getLast?_singleton,Option.some_or,Option.map_some,Up,List.forall_mem_cons];have hb:BOk h.f1 h.f2 x:=⟨c1,by omega,by omega⟩
   constructor
   ·rintro⟨a,b⟩;exact⟨⟨hb,a⟩,hc.1 rfl,b⟩
   ·rintro⟨⟨_,a⟩,_,b⟩;exact⟨a,b⟩
theorem Z8j (h:Z1) (l:List Z0) (hs:Z19 h.f1) (hl:l.length<1000000000) (hU:∀ b∈l,U64 b.f1):∃ r,Z18.f h l=some r∧(r=0↔Side h.f1 h.f2 l):=by
 unfold Z18.f;by_cases h0:l.length>512
 ·rw[if_pos (by simp;omega)]
  exact⟨_,rfl,by simp;intro h;have:=h.len;omega⟩
 ·rw[if_neg (by simp;omega)]
  obtain⟨r,e,e1,e2⟩:=buckets_l0 h l hs hl l [] 0 rfl rfl hU;rw[e,sb];cases r with
  | inl c =>
   refine⟨c,rfl,?_⟩;constructor
   ·intro h;exact absurd h (e1 c rfl)
   ·intro h
    exact absurd (e2.2 ⟨h.ok,(up_iff l _).2 ⟨by simp,h.up⟩⟩) (by simp)
  | inr u =>
   refine⟨0,rfl,?_⟩;obtain⟨h1,h2⟩:=e2.1 rfl;exact⟨fun _=>⟨by omega,h1,((up_iff l _).1 h2).2⟩,fun _=>rfl⟩
theorem check_iff (h:Z1) (hf:Fits h) (hp:h.f6.length<1000000000) (hn:h.f7.length<1000000000):∃ r,Z1m.f h=some r∧(r=0↔Z1b h):=by
 unfold Z1m.f;have hk:((if(h.f0 != (0:Int))=true then(some (h.f0 != (1:Int))) else(some false)):Option (Bool))=some (!decide (h.f0=0∨h.f0=1)):=by
  by_cases h1:h.f0=0
  ·simp[h1]
  ·by_cases h2:h.f0=1<;>simp[h1,h2]
 rw[hk,sb];by_cases c1:h.f0=0∨h.f0=1
 case neg=>rw[if_pos (by simpa using c1)];exact⟨_,rfl,by simp;intro h;exact c1 h.kind⟩
 rw[if_neg (by rw[decide_eq_true c1];decide)];by_cases c2:Z19 h.f1
 case neg=>rw[right_F c2,sb,if_pos (by simp)];exact⟨_,rfl,by simp;intro h;exact c2 h.schema⟩
 rw[Z6n c2,sb,if_neg (by simp)];have hz:((if(h.f2 != (-524288))=true then(if(decide (h.f2≤(-262144)))=true then(some true) else(some (decide (h.f2>(262144:Int))))) else(some false)):Option (Bool))=some (!decide (h.f2 = -524288∨(-262144<h.f2∧h.f2≤262144))):=by
  by_cases h1:h.f2 = -524288
  ·simp[h1]
  ·by_cases h2:h.f2 ≤ -262144
   ·simp[h1,h2]
   ·have h4 : -262144<h.f2:=by omega
    by_cases h3:h.f2≤262144
    ·simp[h1,h2,h3,h4]
    ·simp[h1,h2,h3,h4];omega
 rw[hz,sb];by_cases c3:h.f2 = -524288∨(-262144<h.f2∧h.f2≤262144)
 case neg=>rw[if_pos (by simp[c3])];exact⟨_,rfl,by simp;intro h;exact c3 h.zero⟩
 rw[if_neg (by simp[c3])];obtain⟨r1,e1,i1⟩:=Z8j h h.f6 c2 hp (fun b hb=>(hf.pos b hb).2);obtain⟨r2,e2,i2⟩:=Z8j h h.f7 c2 hn (fun b hb=>(hf.neg b hb).2);rw[Zbt,e1,e2,sb,sb];by_cases d1:r1=0
 case neg=>rw[if_pos (by simpa using d1),sb];exact⟨_,rfl,⟨fun h=>absurd h d1,fun h=>absurd (i1.2 h.pos) d1⟩⟩
 rw[if_neg (by simpa using d1)];by_cases d2:r2=0
 case neg=>rw[if_pos (by simpa using d2),sb];exact⟨_,rfl,⟨fun h=>absurd h d2,fun h=>absurd (i2.2 h.neg) d2⟩⟩
 rw[if_neg (by simpa using d2),sb];simp only[];rw[total3 _ _ _ hp hn (fun b hb=>(hf.pos b hb).2) (fun b hb=>(hf.neg b hb).2) hf.zero,sb];by_cases c4:cnt h.f6+cnt h.f7+h.f3<18446744073709551616
 case neg=>rw[if_neg c4,if_pos (by simp)];exact⟨_,rfl,by simp;intro h;exact c4 h.total⟩
 rw[if_pos c4,if_neg (by simp)];by_cases c5:cnt h.f6+cnt h.f7+h.f3=h.f4
 ·rw[if_neg (by simpa using c5)]
  exact⟨0,rfl,fun _=>⟨c1,c2,c3,i1.1 d1,i2.1 d2,c4,c5.symm⟩,fun _=>rfl⟩
 ·rw[if_pos (by simpa using c5)]
  exact⟨_,rfl,by simp;intro h;exact c5 h.count.symm⟩
theorem check_T (h:Z1) (hf:Fits h) (hv:Z1b h):Z1m.f h=some 0:=by
 have hl:=hv.pos.len;have hl2:=hv.neg.len;obtain⟨r,e,i⟩:=check_iff h hf (by omega) (by omega);rw[e,i.2 hv]
theorem ref_add_l0 (l:List Int) (hl:l.length<4611686018427387904):∀ (suf pre:List Int) (acc i:Int),l=pre++suf→i=(pre.length:Int)→U64 acc→(∀ x∈suf,U64 x) →
  Z2t.l0 l acc i=some (if acc+suf.sum<18446744073709551616 then .inr (acc+suf.sum) else .inl (0,5)):=by
 intro suf
 induction suf with
 | nil =>
  intro pre acc i h1 hi ha hs;subst h1;rw[Z2t.l0,if_neg (by simp[hi])];simp[ha.2]
 | cons x suf ih =>
  intro pre acc i h1 hi ha hs;have hx:=hs x (by simp);have hs':∀ y∈suf,U64 y:=fun y hy=>hs y (by simp[hy])
  have hnn:0≤suf.sum:=Z5g (fun y hy=>(hs' y hy).1);have hlen:(l.length:Int)=pre.length+(suf.length+1):=by rw[h1];simp
  rw[Z2t.l0,if_pos (by rw[h1];simp[hi];omega),Z0t h1 hi,sb,Z28 (n:=18446744073709551615-acc) (by omega) (by omega)];by_cases hov:acc+x<18446744073709551616
  ·rw[if_neg (by simp;omega),Zh     (by omega) (by omega),Z28   (by omega) (by omega)]
   rw[ih (pre++[x]) (acc+x) (i+1) (by simp[h1]) (by simp;omega) ⟨by omega,hov⟩ hs'];rw[List.sum_cons,Int.add_assoc]
  ·rw[if_pos (by simp;omega),if_neg (by rw[List.sum_cons];omega)]
theorem ref_add (l:List Int) (hl:l.length<4611686018427387904) (h:∀ x∈l,U64 x) :
  Z2t.f l=some (if l.sum<18446744073709551616 then(l.sum,0) else(0,5)):=by
 unfold Z2t.f;rw[ref_add_l0 l hl l [] 0 0 rfl rfl (by omega) h,sb,Int.zero_add];by_cases h:l.sum<18446744073709551616
 ·rw[if_pos h,if_pos h]
 ·rw[if_neg h,if_neg h]
theorem ref_check_l1 (h:Z1) (x124:Int) (l:List Z0) (hs:Z19 h.f1) (hl:l.length<1000000):∀ (suf pre:List Z0) (acc:List Int) (i:Int),l=pre++suf→i=(pre.length:Int)→acc.length+suf.length<10000000→(∀ b∈suf,I64 b.f0∧U64 b.f1) →
  ∃ r,Z0y.l1 h x124 l acc i=some r∧(∀ c,r = .inl c→c≠0)∧((∃ a,r = .inr a)↔(∀ b∈suf,BOk h.f1 h.f2 b)∧Up ((pre.getLast?).map (·.f0)) suf)∧∀ a,r = .inr a→a=acc++suf.map (·.f1):=by
 intro suf
 induction suf with
 | nil =>
  intro pre acc i h1 hi _ _;subst h1;rw[Z0y.l1,if_neg (by simp[hi])];exact⟨_,rfl,by simp,by simp[Up],by simp⟩
 | cons x suf ih =>
  intro pre acc i h1 hi ha hU;have hx:=hU x (by simp);have hlen:(l.length:Int)=pre.length+(suf.length+1):=by rw[h1];simp
  simp only[List.length_cons] at ha;rw[Z0y.l1,if_pos (by simp;omega),Z0t h1 hi,sb,ref_in hs hx.1,sb];by_cases c1:InS h.f1 x.f0
  case neg =>
   rw[if_pos (by simp[c1])];exact⟨_,rfl,by simp,by simp;intro h;exact absurd h.ins c1,by simp⟩
  rw[if_neg (by simp[c1])];have hsm:=Z3y c1;have hprev:∃ c:Bool,((if(decide (i>(0:Int)))=true then((at? l (i64.wrap (i-(1:Int))))>>=fun b168=>some (decide (x.f0≤b168.f0))) else(some false)):Option (Bool))=some c∧(c=false↔∀ q,(pre.getLast?).map (·.f0)=some q→q<x.f0):=by
   by_cases h0:0<i
   ·obtain⟨q,e1,y,e2,e3⟩:=last_pre h1 hi h0 (by omega)
    rw[if_pos (by simpa using h0),e2,sb];exact⟨_,rfl,by rw[e1,e3];simp⟩
   ·rw[if_neg (by simpa using h0)]
    exact⟨_,rfl,by rw[no_pre hi h0];simp⟩
  obtain⟨c,ec,hc⟩:=hprev;rw[ec,sb,Zh (n:=x.f0-1) (by omega) (by omega),Z4f hs (by omega)];cases c with
  | true =>
   rw[if_pos rfl];refine⟨_,rfl,by simp,by simp;intro _ _ h2;exact absurd (hc.2 h2.1) (by simp),by simp⟩
  | false =>
   rw[if_neg (by simp)];by_cases c2:x.f1=0
   ·rw[if_pos (by simpa using c2)]
    exact⟨_,rfl,by simp,by simp;intro h;have:=h.pos;omega,by simp⟩
   rw[if_neg (by simpa using c2),sb];by_cases c3:(x.f0-1)*stp h.f1<h.f2
   ·rw[if_pos (by simpa using c3)]
    exact⟨_,rfl,by simp,by simp;intro h;have:=h.low;omega,by simp⟩
   rw[if_neg (by simpa using c3),chkB (by simp;omega),Zh (n:=i+1) (by omega) (by omega)];obtain⟨r,e,e1,e2,e3⟩:=ih (pre++[x]) (acc++[x.f1]) (i+1) (by simp[h1]) (by simp;omega) (by simp;omega) (fun b hb=>hU b (by simp[hb]));refine⟨r,e,e1,?_,fun a ha=>by rw[e3 a ha];simp⟩;rw[e2];simp only[List.getLast?_append,List.getLast?_singleton,Option.some_or,Option.map_some,Up,List.forall_mem_cons];have hb:BOk h.f1 h.f2 x:=⟨c1,by omega,by omega⟩
   constructor
   ·rintro⟨a,b⟩;exact⟨⟨hb,a⟩,hc.1 rfl,b⟩
   ·rintro⟨⟨_,a⟩,_,b⟩;exact⟨a,b⟩
theorem Z8b (h:Z1) (x124:Int) (l:List Z0) (acc:List Int) (hs:Z19 h.f1) (hl:l.length<1000000000000000) (ha:acc.length<1000000) (hU:∀ b∈l,I64 b.f0∧U64 b.f1) :
  ∃ r:Int ⊕ List Int,(if(decide ((l.length:Int)>(512:Int)))=true then(some (.inl 9)) else(Z0y.l1 h x124 l acc 0))=some r∧(∀ c,r = .inl c→c≠0)∧((∃ a,r = .inr a)↔Side h.f1 h.f2 l)∧∀ a,r = .inr a→a=acc++l.map (·.f1):=by
 by_cases h0:l.length>512
 ·rw[if_pos (by simp;omega)]
  exact⟨_,rfl,by simp,by simp;intro h;have:=h.len;omega,by simp⟩
 ·rw[if_neg (by simp;omega)]
  obtain⟨r,e,e1,e2,e3⟩:=ref_check_l1 h x124 l hs (by omega) l [] acc 0 rfl rfl (by omega) hU;refine⟨r,e,e1,e2.trans ⟨fun⟨h1,h2⟩=>⟨by omega,h1,((up_iff l _).1 h2).2⟩,fun h=>⟨h.ok,(up_iff l _).2 ⟨by simp,h.up⟩⟩⟩,e3⟩
theorem ref_check_iff (h:Z1) (hf:Fits h) (hp:h.f6.length<1000000000000000) (hn:h.f7.length<1000000000000000):∃ r,Z0y.f h=some r∧(r=0↔Z1b h):=by
 unfold Z0y.f;have hk:((if(h.f0 != (0:Int))=true then(some (h.f0 != (1:Int))) else(some false)):Option (Bool))=some (!decide (h.f0=0∨h.f0=1)):=by
  by_cases h1:h.f0=0
  ·simp[h1]
  ·by_cases h2:h.f0=1<;>simp[h1,h2]
 rw[hk,sb];by_cases c1:h.f0=0∨h.f0=1
 case neg=>rw[if_pos (by simpa using c1)];exact⟨_,rfl,by simp;intro h;exact c1 h.kind⟩
 rw[if_neg (by rw[decide_eq_true c1];decide),Z57,sb];by_cases c2:Z19 h.f1
 case neg=>rw[if_pos (by simp[c2])];exact⟨_,rfl,by simp;intro h;exact c2 h.schema⟩
 rw[if_neg (by simp[c2])];have hz:((if(h.f2 != (-524288))=true then(if(decide (h.f2≤(-262144)))=true then(some true) else(some (decide (h.f2>(262144:Int))))) else(some false)):Option (Bool))=some (!decide (h.f2 = -524288∨(-262144<h.f2∧h.f2≤262144))):=by
  by_cases h1:h.f2 = -524288
  ·simp[h1]
  ·by_cases h2:h.f2 ≤ -262144
   ·simp[h1,h2]
   ·have h4 : -262144<h.f2:=by omega
    by_cases h3:h.f2≤262144
    ·simp[h1,h2,h3,h4]
    ·simp[h1,h2,h3,h4];omega
 rw[hz,sb];by_cases c3:h.f2 = -524288∨(-262144<h.f2∧h.f2≤262144)
 case neg=>rw[if_pos (by simp[c3])];exact⟨_,rfl,by simp;intro h;exact c3 h.zero⟩
 rw[if_neg (by simp[c3])];obtain⟨r1,e1,n1,i1,j1⟩:=Z8b h 0 h.f6 [h.f3] c2 hp (by simp) hf.pos;have w1:i64.wrap (0+1)=1:=by decide
 have w2:i64.wrap (1+1)=2:=by decide
 have step:∀ (k:Int) (l:List Z0) (acc:List Int),(k=0∧l=h.f6∨k=1∧l=h.f7)→Z0y.l0 h acc k=((if(decide ((l.length:Int)>(512:Int)))=true then(some (.inl 9)) else(Z0y.l1 h k l acc 0))>>=fun(oo:Int ⊕ List Int)=>match oo with | .inl rr=>(some (.inl rr)) | .inr x181=>(Z0y.l0 h x181 (k+1))):=by
  intro k l acc hk;rcases hk with ⟨rfl,rfl⟩ | ⟨rfl,rfl⟩
  ·rw[Z0y.l0,if_pos (by decide),if_neg (by decide),sb,w1,bind_iteB];rfl
  ·rw[Z0y.l0,if_pos (by decide),if_pos (by decide),sb,w2,bind_iteB];rfl
 rw[step 0 h.f6 _ (.inl ⟨rfl,rfl⟩),e1,sb];cases r1 with
 | inl c=>exact⟨c,rfl,fun h=>absurd h (n1 c rfl),fun h=>by obtain⟨a,e⟩:=i1.2 h.pos;cases e⟩
 | inr a1 =>
  have hv1:=i1.1 ⟨_,rfl⟩;have ha1:=j1 a1 rfl;have hl1:=hv1.len;obtain⟨r2,e2,n2,i2,j2⟩:=Z8b h 1 h.f7 a1 c2 hn (by rw[ha1];simp;omega) hf.neg;simp only[];rw[show(0:Int)+1=1 from rfl,step 1 h.f7 _ (.inr ⟨rfl,rfl⟩),e2,sb];cases r2 with
  | inl c=>exact⟨c,rfl,fun h=>absurd h (n2 c rfl),fun h=>by obtain⟨a,e⟩:=i2.2 h.neg;cases e⟩
  | inr a2 =>
   have hv2:=i2.1 ⟨_,rfl⟩;have ha2:=j2 a2 rfl;have hl2:=hv2.len;simp only[];rw[show(1:Int)+1=2 from rfl,Z0y.l0,if_neg (by decide),sb];simp only[];have hall:a2=[h.f3]++h.f6.map (·.f1)++h.f7.map (·.f1):=by rw[ha2,ha1]
   have hsum:a2.sum=cnt h.f6+cnt h.f7+h.f3:=by rw[hall];simp[cnt];omega
   rw[ref_add a2 (by rw[hall];simp;omega) (by
    intro x hx;rw[hall] at hx;simp only[List.mem_append,List.mem_singleton,List.mem_map] at hx;rcases hx with (rfl | ⟨b,hb,rfl⟩) | ⟨b,hb,rfl⟩
    ·exact hf.zero
    ·exact(hf.pos b hb).2
    ·exact(hf.neg b hb).2),sb,hsum]
   by_cases c4:cnt h.f6+cnt h.f7+h.f3<18446744073709551616
   case neg=>rw[if_neg c4,if_pos (by simp)];exact⟨_,rfl,by simp;intro h;exact c4 h.total⟩
   rw[if_pos c4,if_neg (by simp)];by_cases c5:cnt h.f6+cnt h.f7+h.f3=h.f4
   ·rw[if_neg (by simpa using c5)]
    exact⟨0,rfl,fun _=>⟨c1,c2,c3,hv1,hv2,c4,c5.symm⟩,fun _=>rfl⟩
   ·rw[if_pos (by simpa using c5)]
    exact⟨_,rfl,by simp;intro h;exact c5 h.count.symm⟩
end Go.Proofs.YtcilcefjcaimoaaGreat.PvGQ
