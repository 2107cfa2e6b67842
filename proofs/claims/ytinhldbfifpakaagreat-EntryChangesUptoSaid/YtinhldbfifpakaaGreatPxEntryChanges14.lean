import Derived.Test.YtinhldbfifpakaaGreatPxEntryChanges13
set_option linter.unusedVariables false
set_option linter.unusedSimpArgs false
set_option maxRecDepth 10000
namespace Go.Proofs.YtinhldbfifpakaaGreat.PvGL1
open Go Go.Pv Go.Pv.GS Go.IntKind
def Z9d (k:Int) (h:Zk):List Z1:=if k=0 then h.f6 else h.f7
def allI (k:Int) (l:List Za):List Int:=l.foldl (fun u s=>uni u ((Z9d k s.f1).map (·.f0))) []
theorem Z70 (k:Int) (l:List Za) (s:Za):allI k (l++[s])=uni (allI k l) ((Z9d k s.f1).map (·.f0)):=by simp[allI,List.foldl_append]
theorem Zan {h:Zk} (v:Z3k h) (k:Int):Side h.f1 h.f2 (Z9d k h):=by unfold Z9d;split;exact v.pos;exact v.neg
theorem side_ids {h:Zk} (v:Z3k h) (k:Int):Ids ((Z9d k h).map (·.f0)):=by
 have s:=Zan v k
 refine⟨List.pairwise_map.2 s.up,fun i hi => ?_⟩
 obtain⟨y,hy,rfl⟩:=List.mem_map.1 hi
 have:=Z5i (s.ok y hy).ins;omega
theorem Zbu {α:Type} {P:List α→Prop} (h0:P []) (h1:∀ l x,P l→P (l++[x])):∀ l,P l:=by
 intro l
 rcases List.eq_nil_or_concat l with rfl | ⟨l',x,rfl⟩
 ·exact h0
 ·rw[List.concat_eq_append];exact h1 l' x (Zbu h0 h1 l')
termination_by l=>l.length
decreasing_by subst l;simp
theorem Z85 (k:Int) (l:List Za):(∀ s∈l,Z3k s.f1)→Ids (allI k l):=by
 induction l using Zbu with
 | h0=>intro _;exact⟨List.Pairwise.nil,by simp[allI]⟩
 | h1 l x ih =>
  intro h
  have i1:=ih (fun s hs=>h s (by simp[hs]))
  have i2:=side_ids (h x (by simp)) k
  rw[Z70]
  exact⟨uni_inc _ _ i1.1 i2.1,fun i hi=>by rcases(Zaw i _ _).1 hi with q | q;exact i1.2 i q;exact i2.2 i q⟩
theorem Zbz (k:Int) (l:List Za):(∀ s∈l,Z3k s.f1)→(allI k l).length≤512*l.length:=by
 induction l using Zbu with
 | h0=>intro _;simp[allI]
 | h1 l x ih =>
  intro h
  have i1:=ih (fun s hs=>h s (by simp[hs]))
  have i2:=(Zan (h x (by simp)) k).len
  have:=uni_len (allI k l) ((Z9d k x.f1).map (·.f0))
  rw[Z70]
  simp only[List.length_map,List.length_append,List.length_singleton] at *;omega
theorem allI_mem (k:Int) (i:Int) (l:List Za):i∈allI k l↔∃ s∈l,i∈(Z9d k s.f1).map (·.f0):=by
 induction l using Zbu with
 | h0=>simp[allI]
 | h1 l x ih =>
  rw[Z70,Zaw,ih]
  constructor
  ·rintro(⟨s,hs,h⟩ | h)
   ·exact⟨s,by simp[hs],h⟩
   ·exact⟨x,by simp,h⟩
  ·rintro⟨s,hs,h⟩
   rcases List.mem_append.1 hs with hs | hs
   ·exact .inl ⟨s,hs,h⟩
   ·simp at hs;subst hs;exact .inr h
theorem lays_l0 (l:List Za) (hl:l.length≤1000) (hv:∀ s∈l,Z3k s.f1):∀ (suf pre:List Za) (i:Int),l=pre++suf→i=(pre.length:Int) →
  Z1g.l0 l (lay (allI 0 pre)).f0 (lay (allI 0 pre)).f1 (lay (allI 1 pre)).f0 (lay (allI 1 pre)).f1 i=some ((lay (allI 0 l)).f0,(lay (allI 0 l)).f1,(lay (allI 1 l)).f0,(lay (allI 1 l)).f1):=by
 intro suf
 induction suf with
 | nil=>intro pre i h1 hi;rw[List.append_nil] at h1;subst h1;rw[Z1g.l0,if_neg (by simp[hi])]
 | cons s suf ih =>
  intro pre i h1 hi
  have hlen:l.length=pre.length+(suf.length+1):=by rw[h1];simp
  have vs:=hv s (by rw[h1];simp)
  have hp:∀ x∈pre,Z3k x.f1:=fun x hx=>hv x (by rw[h1];simp[hx])
  have a0:=Z85 0 pre hp
  have a1:=Z85 1 pre hp
  have n0:=Zbz 0 pre hp
  have n1:=Zbz 1 pre hp
  have s0:=side_ids vs 0
  have s1:=side_ids vs 1
  have m0:=vs.pos.len
  have m1:=vs.neg.len
  have O0:=of_eq s.f1.f6 (by omega) s0.sm
  have O1:=of_eq s.f1.f7 (by omega) s1.sm
  have J0:Z2b.f ⟨(lay (allI 0 pre)).f0,(lay (allI 0 pre)).f1⟩ (lay (s.f1.f6.map (·.f0)))=some (lay (allI 0 (pre++[s]))):=by
   rw[Z70];exact join_eq a0.sm s0.sm (by simp[Z9d];omega)
  have J1:Z2b.f ⟨(lay (allI 1 pre)).f0,(lay (allI 1 pre)).f1⟩ (lay (s.f1.f7.map (·.f0)))=some (lay (allI 1 (pre++[s]))):=by
   rw[Z70];exact join_eq a1.sm s1.sm (by simp[Z9d];omega)
  rw[Z1g.l0,if_pos (by simp;omega),Z0a h1 hi,sb,O0,sb,J0,sb,O1,sb,J1,sb,Zc (by omega) (by omega)]
  exact ih (pre++[s]) (i+1) (by simp[h1]) (by simp;omega)
theorem lays_eq (l:List Za) (hl:l.length≤1000) (hv:∀ s∈l,Z3k s.f1):Z1g.f l=some (lay (allI 0 l),lay (allI 1 l)):=by
 unfold Z1g.f
 rw[show Z1g.l0 l 0 [] 0 [] 0=_ from lays_l0 l hl hv l [] 0 rfl rfl,sb]
theorem rall_l1 (l:List Za) (k q:Int) (t:List Z1) (hl:t.length<1000000):∀ (suf pre o:List Z1) (i:Int),t=pre++suf→i=(pre.length:Int)→o.length+suf.length<100000000 →
  Z1d.l1 l k t q o i=some (o++suf.map fun y=>⟨y.f0,1⟩):=by
 intro suf
 induction suf with
 | nil=>intro pre o i h1 hi ho;rw[Z1d.l1,if_neg (by rw[h1];simp[hi])];simp
 | cons y suf ih =>
  intro pre o i h1 hi ho
  have hlen:t.length=pre.length+(suf.length+1):=by rw[h1];simp
  simp only[List.length_cons] at ho
  rw[Z1d.l1,if_pos (by simp;omega),Z0a h1 hi,sb,chkB (by simp;omega),Zc (by omega) (by omega),ih (pre++[y]) _ (i+1) (by simp[h1]) (by simp;omega) (by simp;omega)]
  simp
theorem rside_eq (h:Zk) {k:Int} (hk:k=0∨k=1):Z6q.f h k=some (Z9d k h):=by
 rcases hk with rfl | rfl<;>rfl
theorem rall_l0 (l:List Za) (hl:l.length≤1000) (hv:∀ s∈l,Z3k s.f1) {k:Int} (hk:k=0∨k=1):∀ (suf pre:List Za) (o:List Z1) (i:Int),l=pre++suf→i=(pre.length:Int)→o.length≤512*pre.length →
  Z1d.l0 l k o i=some (o++suf.flatMap fun s=>(Z9d k s.f1).map fun y=>⟨y.f0,1⟩):=by
 intro suf
 induction suf with
 | nil=>intro pre o i h1 hi ho;rw[Z1d.l0,if_neg (by rw[h1];simp[hi])];simp
 | cons s suf ih =>
  intro pre o i h1 hi ho
  have hlen:l.length=pre.length+(suf.length+1):=by rw[h1];simp
  have m:=(Zan (hv s (by rw[h1];simp)) k).len
  rw[Z1d.l0,if_pos (by simp;omega),Z0a h1 hi,sb,rside_eq _ hk,sb,rall_l1 l k i (Z9d k s.f1) (by omega) (Z9d k s.f1) [] o 0 rfl rfl (by omega),sb,Zc (by omega) (by omega),ih (pre++[s]) _ (i+1) (by simp[h1]) (by simp;omega) (by simp;omega)]
  simp
theorem rall_l2 (t:List Z1×Int) (hl:t.1.length<10000000):∀ (suf pre:List Z1) (o:List Int) (i:Int),t.1=pre++suf→i=(pre.length:Int)→o.length≤pre.length →
  Z1d.l2 t o i=some (o++suf.map (·.f0)):=by
 intro suf
 induction suf with
 | nil=>intro pre o i h1 hi ho;rw[Z1d.l2,if_neg (by rw[h1];simp[hi])];simp
 | cons y suf ih =>
  intro pre o i h1 hi ho
  have hlen:t.1.length=pre.length+(suf.length+1):=by rw[h1];simp
  rw[Z1d.l2,if_pos (by simp;omega),Z0a h1 hi,sb,chkB (by simp;omega),Zc (by omega) (by omega),ih (pre++[y]) _ (i+1) (by simp[h1]) (by simp;omega) (by simp;omega)]
  simp
theorem ones_cnt:∀ (A:List Z1),(∀ y∈A,y.f1=1)→cnt A=A.length
 | [],_=>rfl
 | y::A,h=>by rw[Z6n,ones_cnt A (fun z hz=>h z (by simp[hz])),h y (by simp)];simp;omega
theorem fm_len (k:Int):∀ (l:List Za),(∀ s∈l,Z3k s.f1)→(l.flatMap fun s=>(Z9d k s.f1).map fun y=>(⟨y.f0,1⟩:Z1)).length≤512*l.length
 | [],_=>by simp
 | s::l,h=>by
  have:=fm_len k l (fun x hx=>h x (by simp[hx]))
  have:=(Zan (h s (by simp)) k).len
  rw[List.flatMap_cons,List.length_append,List.length_map,List.length_cons];omega
theorem rall_eq (l:List Za) (hl:l.length≤1000) (hv:∀ s∈l,Z3k s.f1) {k:Int} (hk:k=0∨k=1):Z1d.f l k=some (allI k l):=by
 unfold Z1d.f
 rw[rall_l0 l hl hv hk l [] [] 0 rfl rfl (by simp),sb,List.nil_append]
 have hA:=fm_len k l hv
 generalize eA:(l.flatMap fun s=>(Z9d k s.f1).map fun y=>(⟨y.f0,1⟩:Z1))=A at *
 have h1:∀ y∈A,y.f1=1:=fun y hy=>by
  rw[← eA] at hy
  obtain⟨s,_,h⟩:=List.mem_flatMap.1 hy
  obtain⟨z,_,rfl⟩:=List.mem_map.1 h
  rfl
 have hmem:∀ i,(∃ y∈A,y.f0=i)↔i∈allI k l:=fun i=>by
  rw[allI_mem,← eA]
  constructor
  ·rintro⟨y,hy,rfl⟩
   obtain⟨s,hs,h⟩:=List.mem_flatMap.1 hy
   obtain⟨z,hz,rfl⟩:=List.mem_map.1 h
   exact⟨s,hs,List.mem_map.2 ⟨z,hz,rfl⟩⟩
  ·rintro⟨s,hs,h⟩
   obtain⟨z,hz,rfl⟩:=List.mem_map.1 h
   exact⟨⟨z.f0,1⟩,List.mem_flatMap.2 ⟨s,hs,List.mem_map.2 ⟨z,hz,rfl⟩⟩,rfl⟩
 have hn:Nn A:=fun y hy=>by rw[h1 y hy];omega
 obtain⟨o,e,hc,ht,ho⟩:=tidy_ref A (by omega) (fun y hy=>by rw[h1 y hy];omega) (by rw[ones_cnt A h1];omega)
 rw[e,sb,rall_l2 (o,0) (by show o.length<_;omega) o [] [] 0 rfl rfl (by simp),sb,List.nil_append]
 congr 1
 refine inc_ext (List.pairwise_map.2 hc.up) (Z85 k l hv).1 (fun i => ?_)
 rw[← hmem]
 constructor
 ·intro h
  obtain⟨y,hy,rfl⟩:=List.mem_map.1 h
  have h2:=hc.tot_of hy
  have h3:=hc.pos y hy
  apply Classical.byContradiction
  intro hno
  rw[ht,tot_zero (fun z hz q=>hno ⟨z,hz,q⟩)] at h2
  omega
 ·rintro⟨y,hy,rfl⟩
  have h2:=tot_mem hn hy
  rw[h1 y hy,← ht] at h2
  apply Classical.byContradiction
  intro hno
  rw[tot_zero (fun z hz q=>hno (List.mem_map.2 ⟨z,hz,q⟩))] at h2
  omega
def Z1q (h:Zk) (P N:List Int):List Int:=([h.f3,u64.wrap h.f5]++P.map (tot h.f6))++N.map (tot h.f7)
theorem Z4d (h:Zk) (P N:List Int):(Z1q h P N).length=2+P.length+N.length:=by simp[Z1q];omega
theorem rows_eq {h:Zk} (v:Z3k h) {P N:List Int} (hP:Ids P) (hN:Ids N) (h1:P.length<1000000) (h2:N.length<1000000):Z59.f h (lay P) (lay N)=some (Z1q h P N):=by
 have m0:=v.pos.len
 have m1:=v.neg.len
 unfold Z59.f
 rw[counts_eq hP.1 hP.sm h1 v.pos.canon (by omega),sb,chkB (by simp;omega),counts_eq hN.1 hN.sm h2 v.neg.canon (by omega),sb,chkB (by simp;omega)]
 rfl
theorem num_l0 {h:Zk} (v:Z3k h) (P N:List Int) (h1:P.length<1000000):∀ (suf pre o:List Int) (i:Int),P=pre++suf→i=(pre.length:Int)→o.length≤pre.length+2 →
  Z0t.l0 h P N o i=some (o++suf.map (tot h.f6)):=by
 have m0:=v.pos.len
 intro suf
 induction suf with
 | nil=>intro pre o i h1 hi ho;rw[Z0t.l0,if_neg (by rw[h1];simp[hi])];simp
 | cons y suf ih =>
  intro pre o i h1 hi ho
  have hlen:P.length=pre.length+(suf.length+1):=by rw[h1];simp
  rw[Z0t.l0,if_pos (by simp;omega),Z0a h1 hi,sb,rat_eq h.f6 y (by omega) v.pos.canon,sb,chkB (by simp;omega),Zc (by omega) (by omega),ih (pre++[y]) _ (i+1) (by simp[h1]) (by simp;omega) (by simp;omega)]
  simp
theorem num_l1 {h:Zk} (v:Z3k h) (N:List Int) (h1:N.length<1000000) (K:Nat) (hK:K<10000000):∀ (suf pre o:List Int) (i:Int),N=pre++suf→i=(pre.length:Int)→o.length≤pre.length+K →
  Z0t.l1 h N o i=some (o++suf.map (tot h.f7)):=by
 have m1:=v.neg.len
 intro suf
 induction suf with
 | nil=>intro pre o i h1 hi ho;rw[Z0t.l1,if_neg (by rw[h1];simp[hi])];simp
 | cons y suf ih =>
  intro pre o i h1 hi ho
  have hlen:N.length=pre.length+(suf.length+1):=by rw[h1];simp
  rw[Z0t.l1,if_pos (by simp;omega),Z0a h1 hi,sb,rat_eq h.f7 y (by omega) v.neg.canon,sb,chkB (by simp;omega),Zc (by omega) (by omega),ih (pre++[y]) _ (i+1) (by simp[h1]) (by simp;omega) (by simp;omega)]
  simp
theorem num_eq {h:Zk} (v:Z3k h) (P N:List Int) (h1:P.length<1000000) (h2:N.length<1000000):Z0t.f h P N=some (Z1q h P N):=by
 unfold Z0t.f
 rw[num_l0 v P N h1 P [] _ 0 rfl rfl (by simp),sb,num_l1 v N h2 (P.length+2) (by omega) N [] _ 0 rfl rfl (by simp),sb];rfl
theorem len_le512 (n:Nat):decide ((n:Int)≤512)=decide (n≤512):=by
 by_cases h:n≤512
 ·rw[decide_eq_true h,decide_eq_true (by omega)]
 ·rw[decide_eq_false h,decide_eq_false (by omega)]
structure COk (l:List Za):Prop where
 ok:∀ s∈l,Z3k s.f1∧0≤s.f0∧s.f0≤1099511627776
 len:l.length≤32
 up:l.Pairwise (fun a b=>a.f0<b.f0)
 head:∀ s∈l,∀ t∈l,s.f1.f0=t.f1.f0∧s.f1.f1=t.f1.f1∧s.f1.f2=t.f1.f2
 pos:(allI 0 l).length≤512
 neg:(allI 1 l).length≤512
theorem COk.nil:COk []:=⟨by simp,by simp,by simp,by simp,by simp[allI],by simp[allI]⟩
theorem fit_nil (s:Za) (vs:Z3k s.f1) (ht:0≤s.f0∧s.f0≤1099511627776):COk ([]++[s]):=by
 refine⟨by simp;exact⟨vs,ht⟩,by simp,by simp,by simp,?_,?_⟩
 ·have:=(Zan vs 0).len;rw[Z70];simp[allI,uni,this]
 ·have:=(Zan vs 1).len;rw[Z70];simp[allI,uni,this]
theorem cfits (P:List Za) (p s:Za) (hl:(P++[p]).length≤900) (hV:∀ x∈(P++[p])++[s],Z3k x.f1) :
  Z1o.f (P++[p]) s=(if(decide (31<(P++[p]).length)||decide (s.f0≤p.f0)||(s.f1.f0 != p.f1.f0)||(s.f1.f1 != p.f1.f1)||(s.f1.f2 != p.f1.f2))=true then some false else
   ((if(s.f1.f0==(0:Int))=true then((Z57.f p.f1 s.f1)>>=fun t1460=>some t1460) else(some false)):Option (Bool))>>=fun x1462=>if x1462=true then(some false) else some (decide ((allI 0 ((P++[p])++[s])).length≤512)&&decide ((allI 1 ((P++[p])++[s])).length≤512))):=by
 have hla:((P++[p]:List Za).length:Int)=P.length+1:=by simp
 have hat:at? (P++[p]) (i64.wrap (((P++[p]:List Za).length:Int)-1))=some p:=by
  rw[hla,Zc (by simp at hl;omega) (by simp at hl;omega)];exact Z0a (pre:=P) (x:=p) (suf:=[]) rfl (by omega)
 have hne:¬ ((((P++[p]:List Za).length:Int)==0)=true):=by rw[hla];simp;omega
 have hl2:((P++[p])++[s]:List Za).length≤1000:=by simp at hl ⊢;omega
 unfold Z1o.f
 have hal:Z4g.f p.f1 s.f1=some (!((s.f1.f0 != p.f1.f0)||(s.f1.f1 != p.f1.f1)||(s.f1.f2 != p.f1.f2))):=by
  unfold Z4g.f
  by_cases q0:p.f1.f0=s.f1.f0
  ·rw[if_pos (by simpa using q0),show(s.f1.f0 != p.f1.f0)=false by simp[q0]]
   by_cases q1:p.f1.f1=s.f1.f1
   ·rw[if_pos (by simpa using q1),sb,show(s.f1.f1 != p.f1.f1)=false by simp[q1]]
    by_cases q2:p.f1.f2=s.f1.f2
    ·rw[show(p.f1.f2==s.f1.f2)=true by simpa using q2,show(s.f1.f2 != p.f1.f2)=false by simp[q2]];rfl
    ·rw[show(p.f1.f2==s.f1.f2)=false by simpa using q2,show(s.f1.f2 != p.f1.f2)=true by simpa using fun h=>q2 h.symm];rfl
   ·rw[if_neg (by simpa using q1),sb,show(s.f1.f1 != p.f1.f1)=true by simpa using fun h=>q1 h.symm];rfl
  ·rw[if_neg (by simpa using q0),sb,show(s.f1.f0 != p.f1.f0)=true by simpa using fun h=>q0 h.symm];rfl
 have hb:((if(decide (((P++[p]:List Za).length:Int)≥(32:Int)))=true then(some true) else(if(decide (s.f0≤p.f0))=true then(some true) else((Z4g.f p.f1 s.f1)>>=fun t319=>some (!t319)))):Option (Bool))=some (decide (31<(P++[p]).length)||decide (s.f0≤p.f0)||(s.f1.f0 != p.f1.f0)||(s.f1.f1 != p.f1.f1)||(s.f1.f2 != p.f1.f2)):=by
  rw[hal,sb,Bool.not_not]
  by_cases q1:31<(P++[p]).length
  ·rw[if_pos (by simpa using (by omega:((P++[p]:List Za).length:Int)≥32)),decide_eq_true q1];simp
  ·rw[if_neg (by simpa using (by omega:¬ ((P++[p]:List Za     ).length:Int)≥32)),decide_eq_false q1]
   cases decide (s.f0≤p.f0)<;>simp[Bool.or_assoc]
 have hcl:Z1x.f (P++[p])=some (P++[p]):=by
  unfold Z1x.f
  rw[chkB (by simp at hl ⊢;omega)]
 rw[if_neg hne,hat,sb,hb,sb,hcl,sb,chkB (by simp at hl ⊢;omega),lays_eq _ hl2 hV,sb]
 have i0:=Z85 0 _ hV
 have i1:=Z85 1 _ hV
 have n0:=Zbz 0 _ hV
 have n1:=Zbz 1 _ hV
 dsimp only
 rw[Z80 i0.sm (by omega),Z80 i1.sm (by omega),sb,sb,len_le512,len_le512]
 congr 2
 funext x
 cases x with
 | true=>rfl
 | false=>cases decide ((allI 0 ((P++[p])++[s])).length≤512)<;>simp[sb]
theorem fit_fin (P:List Za) (p s:Za) (vs:Z3k s.f1) (ht:0≤s.f0∧s.f0≤1099511627776) (g:¬ (decide (31<(P++[p]).length)||decide (s.f0≤p.f0)||(s.f1.f0 != p.f1.f0)||(s.f1.f1 != p.f1.f1)||(s.f1.f2 != p.f1.f2))=true):∀ r:Bool,r=(decide ((allI 0 ((P++[p])++[s])).length≤512)&&decide ((allI 1 ((P++[p])++[s])).length≤512))→r=true→COk (P++[p])→COk ((P++[p])++[s]):=by
 have g2:(P++[p]).length≤31∧p.f0<s.f0∧s.f1.f0=p.f1.f0∧s.f1.f1=p.f1.f1∧s.f1.f2=p.f1.f2:=by
  simp only[Bool.or_eq_true,decide_eq_true_eq,bne_iff_ne,not_or,Classical.not_not] at g
  obtain⟨⟨⟨⟨q1,q2⟩,q3⟩,q4⟩,q5⟩:=g
  exact⟨by omega,by omega,q3,q4,q5⟩
 intro r hr ht2 hc
 rw[ht2] at hr
 have hr':=hr.symm
 simp only[Bool.and_eq_true,decide_eq_true_eq] at hr'
 refine⟨fun x hx => ?_,by simp at g2 ⊢;omega,?_,?_,hr'.1,hr'.2⟩
 ·rcases List.mem_append.1 hx with hx | hx
  ·exact hc.ok x hx
  ·simp at hx;subst hx;exact⟨vs,ht⟩
 ·refine List.pairwise_append.2 ⟨hc.up,by simp,fun a ha b hb => ?_⟩
  simp at hb;subst hb
  rcases List.mem_append.1 ha with ha | ha
  ·have:=(List.pairwise_append.1 hc.up).2.2 a ha p (by simp);omega
  ·simp at ha;subst ha;exact g2.2.1
 ·have hp:∀ x∈(P++[p])++[s],x.f1.f0=p.f1.f0∧x.f1.f1=p.f1.f1∧x.f1.f2=p.f1.f2:=fun x hx=>by
   rcases List.mem_append.1 hx with hx | hx
   ·exact hc.head x hx p (by simp)
   ·simp at hx;subst hx;exact g2.2.2
  intro x hx y hy
  have h1:=hp x hx
  have h2:=hp y hy
  exact⟨h1.1.trans h2.1.symm,h1.2.1.trans h2.2.1.symm,h1.2.2.trans h2.2.2.symm⟩
theorem fits_p (l:List Za) (s:Za) (hl:l.length≤900) (hv:∀ x∈l++[s],Z3k x.f1∧Fits x.f1) (ht:0≤s.f0∧s.f0≤1099511627776) :
  ∃ r:Bool,Z1o.f l s=some r∧(r=true→COk l→COk (l++[s])):=by
 have vs:=hv s (by simp)
 rcases List.eq_nil_or_concat l with rfl | ⟨P,p,rfl⟩
 ·refine⟨true,?_,fun _ _=>fit_nil s vs.1 ht⟩
  unfold Z1o.f;rw[if_pos (by simp)]
 simp only[List.concat_eq_append] at *
 have vp:=hv p (by simp)
 have hV:∀ x∈(P++[p])++[s],Z3k x.f1:=fun x hx=>(hv x hx).1
 rw[cfits P p s hl hV]
 by_cases g:(decide (31<(P++[p]).length)||decide (s.f0≤p.f0)||(s.f1.f0 != p.f1.f0)||(s.f1.f1 != p.f1.f1)||(s.f1.f2 != p.f1.f2))=true
 ·exact⟨false,by rw[if_pos g],by simp⟩
 rw[if_neg g]
 have fin:=fit_fin P p s vs.1 ht g
 by_cases k0:s.f1.f0=0
 ·obtain⟨q,e,e1,_⟩:=sub_anyP s.f1 p.f1 vs.1 vs.2 vp.1 vp.2
  unfold Z57.f
  rw[if_pos (by simpa using k0),e1,sb,sb,sb]
  by_cases k1:e=21
  ·exact⟨false,by rw[if_pos (by simpa using k1)],by simp⟩
  ·exact⟨_,by rw[if_neg (by simpa using k1)],fin _ rfl⟩
 ·rw[if_neg (by simpa using k0),sb]
  exact⟨_,by rw[if_neg (by simp)],fin _ rfl⟩
theorem take_pre {α:Type} {l pre suf:List α} {i:Int} (h:l=pre++suf) (hi:i=(pre.length:Int)):(l.drop (Int.toNat (0:Int))).take (Int.toNat i-Int.toNat (0:Int))=pre:=by
 rw[show Int.toNat (0:Int)=0 from rfl,List.drop_zero,Nat.sub_zero,hi,Int.toNat_natCast,h,List.take_left]
end Go.Proofs.YtinhldbfifpakaaGreat.PvGL1
set_option linter.unusedVariables false
set_option linter.unusedSimpArgs false
set_option maxRecDepth 10000
namespace Go.Proofs.YtinhldbfifpakaaGreat.PvGL1
open Go Go.Pv Go.Pv.GS Go.IntKind
def row0 (r:List Int):List Bool:=r.flatMap fun n=>cnt2 n.toNat
def row1 (a b:List Int):List Bool:=(List.zipWith (fun n w=>intB (i64.wrap (u64.wrap (n-w)))) a b).flatten
def subR (a b:List Int):List Int:=List.zipWith (fun n w=>u64.wrap (n-w)) a b
theorem Zbw:∀ (r:List Int),(row0 r).length≤71*r.length
 | []=>by simp[row0]
 | n::r=>by
  have:=Zbw r
  have:=Z14 n.toNat
  unfold row0 at *
  rw[List.flatMap_cons,List.length_append,List.length_cons];omega
theorem Z7t:∀ (a b:List Int),(row1 a b).length≤71*a.length
 | [],_=>by simp[row1]
 | n::a,[]=>by simp[row1]
 | n::a,w::b=>by
  have:=Z7t a b
  have:=Z53 (i64.wrap (u64.wrap (n-w)))
  unfold row1 at *
  rw[List.zipWith_cons_cons,List.flatten_cons,List.length_append,List.length_cons];omega
theorem Z7c (n w:Int) (a b:List Int):row1 (n::a) (w::b)=intB (i64.wrap (u64.wrap (n-w)))++row1 a b:=by simp[row1]
theorem Zc8 (n:Int) (a:List Int):row0 (n::a)=cnt2 n.toNat++row0 a:=by simp[row0]
theorem Z69 (n w:Int) (a b:List Int):subR (n::a) (w::b)=u64.wrap (n-w)::subR a b:=by simp[subR]
theorem Z8n {a b:List Int} (h:a.length=b.length):(subR a b).length=a.length:=by simp[subR,h]
def body (P N:List Int):Option Za→Option Za→List Za→List Bool
 | _,_,[]=>[]
 | _,none,s::r=>cnt2 s.f0.toNat++(row0 (Z1q s.f1 P N)++body P N none (some s) r)
 | none,some p,s::r=>cnt2 (s.f0-p.f0-1).toNat++(row1 (Z1q s.f1 P N) (Z1q p.f1 P N)++body P N (some p) (some s) r)
 | some q,some p,s::r=>intB (s.f0-2*p.f0+q.f0)++(row1 (subR (Z1q s.f1 P N) (Z1q p.f1 P N)) (subR (Z1q p.f1 P N) (Z1q q.f1 P N))++body P N (some p) (some s) r)
theorem Z8c {α:Type} (p:List α) (x y:α) (s:List α) {k:Int} (hk:k=(p.length:Int)):(p++x::s).set (Int.toNat k) y=p++y::s:=by
 rw[hk,Int.toNat_natCast];simp
theorem Z6i {α:Type} (p:List α) (x:α) (s:List α) {k:Int} (hk:k=(p.length:Int)):at? (p++x::s) k=some x:=Z0a rfl hk
theorem e1_0 (l:List Za) (z:Za) (t:Zd×Zd) (now was step:List Int) (la:Int) (hl:now.length<1000000) (hu:∀ n∈now,U64 n):∀ (suf pre nx:List Int) (b:List Int) (f:Nat) (s:List Bool) (k:Int),now=pre++suf→k=(pre.length:Int)→Laid b f s→s.length+71*suf.length<700000000 →
  ∃ (b':List Int) (f':Nat),Zz.l1 l z t now was step la 0 b (f:Int) nx k=some (b',(f':Int),nx)∧Laid b' f' (s++row0 suf):=by
 intro suf
 induction suf with
 | nil =>
  intro pre nx b f s k h1 hk h hs
  rw[Zz.l1,if_neg (by rw[h1];simp[hk])]
  exact⟨b,f,rfl,by simpa[row0] using h⟩
 | cons n suf ih =>
  intro pre nx b f s k h1 hk h hs
  have hlen:now.length=pre.length+(suf.length+1):=by rw[h1];simp
  have hn:=hu n (by rw[h1];simp)
  have hc:=Z14 n.toNat
  simp only[List.length_cons] at hs
  obtain⟨b1,f1,e1,h1'⟩:=Z67 h (by omega) hn.1 hn.2
  rw[Zz.l1,if_pos (by simp;omega),Z0a h1 hk,sb,if_pos (by simp),e1,sb,sb]
  dsimp only
  rw[Zc (n:=k+1) (by omega) (by omega)]
  obtain⟨b2,f2,e2,h2⟩:=ih (pre++[n]) nx b1 f1 _ (k+1) (by simp[h1]) (by simp;omega) h1' (by simp only[List.length_append];omega)
  exact⟨b2,f2,e2,by rw[Zc8];simpa using h2⟩
theorem e1_1 (l:List Za) (z:Za) (t:Zd×Zd) (now was step:List Int) (la:Int) (hl:now.length<1000000):∀ (sn pn sw pw sx px:List Int) (b:List Int) (f:Nat) (s:List Bool) (k:Int),now=pn++sn→was=pw++sw→pw.length=pn.length→sw.length=sn.length→px.length=pn.length→sx.length=sn.length→k=(pn.length:Int)→Laid b f s→s.length+71*sn.length<700000000 →
  ∃ (b':List Int) (f':Nat),Zz.l1 l z t now was step la 1 b (f:Int) (px++sx) k=some (b',(f':Int),px++subR sn sw)∧Laid b' f' (s++row1 sn sw):=by
 intro sn
 induction sn with
 | nil =>
  intro pn sw pw sx px b f s k h1 h2 l1 l2 l3 l4 hk h hs
  have hsx:sx=[]:=List.length_eq_zero_iff.1 (by simpa using l4)
  subst hsx
  rw[Zz.l1,if_neg (by rw[h1];simp[hk])]
  exact⟨b,f,by simp[subR],by simpa[row1] using h⟩
 | cons n sn ih =>
  intro pn sw pw sx px b f s k h1 h2 l1 l2 l3 l4 hk h hs
  cases sw with
  | nil=>simp at l2
  | cons w sw =>
   cases sx with
   | nil=>simp at l4
   | cons x sx =>
    have hlen:now.length=pn.length+(sn.length+1):=by rw[h1];simp
    have hI:=Z8t (u64.wrap (n-w))
    have hc:=Z53 (i64.wrap (u64.wrap (n-w)))
    simp only[List.length_cons] at hs
    obtain⟨b1,f1,e1,h1'⟩:=wint h (by omega) hI
    rw[Zz.l1,if_pos (by simp;omega),Z0a h1 hk,sb,if_neg (by simp),if_pos (by simp),Z0a h2 (by omega),sb,Z6i px x sx (by omega),sb,Z8c px x _ sx (by omega),Z6i px _ sx (by omega),sb,e1,sb,sb]
    dsimp only
    rw[sb]
    dsimp only
    rw[Zc (n:=k+1) (by omega) (by omega)]
    obtain⟨b2,f2,e2,h2'⟩:=ih (pn++[n]) sw (pw++[w]) sx (px++[u64.wrap (n-w)]) b1 f1 _ (k+1) (by simp[h1]) (by simp[h2]) (by simp[l1]) (by simpa using l2) (by simp[l3]) (by simpa using l4) (by simp;omega) h1' (by simp only[List.length_append];omega)
    refine⟨b2,f2,?_,by rw[Z7c];simpa using h2'⟩
    rw[Z69]
    simpa using e2
theorem e1_2 (l:List Za) (z:Za) (t:Zd×Zd) (now was step:List Int) (la i:Int) (hi:2≤i) (hl:now.length<1000000):∀ (sn pn sw pw ss ps sx px:List Int) (b:List Int) (f:Nat) (s:List Bool) (k:Int),now=pn++sn→was=pw++sw→step=ps++ss→pw.length=pn.length→sw.length=sn.length→ps.length=pn.length→ss.length=sn.length→px.length=pn.length→sx.length=sn.length→k=(pn.length:Int)→Laid b f s→s.length+71*sn.length<700000000 →
  ∃ (b':List Int) (f':Nat),Zz.l1 l z t now was step la i b (f:Int) (px++sx) k=some (b',(f':Int),px++subR sn sw)∧Laid b' f' (s++row1 (subR sn sw) ss):=by
 intro sn
 induction sn with
 | nil =>
  intro pn sw pw ss ps sx px b f s k h1 h2 h3 l1 l2 l5 l6 l3 l4 hk h hs
  have hsx:sx=[]:=List.length_eq_zero_iff.1 (by simpa using l4)
  subst hsx
  rw[Zz.l1,if_neg (by rw[h1];simp[hk])]
  exact⟨b,f,by simp[subR],by simpa[row1,subR] using h⟩
 | cons n sn ih =>
  intro pn sw pw ss ps sx px b f s k h1 h2 h3 l1 l2 l5 l6 l3 l4 hk h hs
  cases sw with
  | nil=>simp at l2
  | cons w sw =>
   cases sx with
   | nil=>simp at l4
   | cons x sx =>
    cases ss with
    | nil=>simp at l6
    | cons v ss =>
     have hlen:now.length=pn.length+(sn.length+1):=by rw[h1];simp
     have hI:=Z8t (u64.wrap (u64.wrap (n-w)-v))
     have hc:=Z53 (i64.wrap (u64.wrap (u64.wrap (n-w)-v)))
     simp only[List.length_cons] at hs
     obtain⟨b1,f1,e1,h1'⟩:=wint h (by omega) hI
     rw[Zz.l1,if_pos (by simp;omega),Z0a h1 hk,sb,if_neg (by simp;omega),if_neg (by simp;omega),Z0a h2 (by omega),sb,Z6i px x sx (by omega),sb,Z8c px x _ sx (by omega),Z6i px _ sx (by omega),sb,Z0a h3 (by omega),sb,e1,sb,sb]
     dsimp only
     rw[sb]
     dsimp only
     rw[Zc (n:=k+1) (by omega) (by omega)]
     obtain⟨b2,f2,e2,h2'⟩:=ih (pn++[n]) sw (pw++[w]) ss (ps++[v]) sx (px++[u64.wrap (n-w)]) b1 f1 _ (k+1) (by simp[h1]) (by simp[h2]) (by simp[h3]) (by simp[l1]) (by simpa using l2) (by simp[l5]) (by simpa using l6) (by simp[l3]) (by simpa using l4) (by simp;omega) h1' (by simp only[List.length_append];omega)
     refine⟨b2,f2,?_,by rw[Z69,Z7c];simpa using h2'⟩
     rw[Z69]
     simpa using e2
theorem tot_u64 {r:List Z1} (hc:Z5a r) (hu:∀ y∈r,U64 y.f1) (i:Int):U64 (tot r i):=by
 by_cases h:∃ y∈r,y.f0=i
 ·obtain⟨y,hy,rfl⟩:=h
  rw[hc.tot_of hy];exact hu y hy
 ·rw[tot_zero (fun y hy e=>h ⟨y,hy,e⟩)];exact⟨by omega,by omega⟩
theorem rows_u64 {h:Zk} (v:Z3k h) (f:Fits h) (P N:List Int):∀ n∈Z1q h P N,U64 n:=by
 intro n hn
 simp only[Z1q,List.mem_append,List.mem_cons,List.not_mem_nil,or_false,List.mem_map] at hn
 rcases hn with ((rfl | rfl) | ⟨i,_,rfl⟩) | ⟨i,_,rfl⟩
 ·exact f.zero
 ·exact Zbs _
 ·exact tot_u64 v.pos.canon (fun y hy=>(f.pos y hy).2) i
 ·exact tot_u64 v.neg.canon (fun y hy=>(f.neg y hy).2) i
def Two (pre:List Za) (q p:Option Za):Prop :=
 (pre=[]∧q=none∧p=none)∨(∃ x,pre=[x]∧q=none∧p=some x)∨(∃ P0 y x,pre=P0++[y,x]∧q=some y∧p=some x)
theorem Two.next {pre:List Za} {q p:Option Za} (h:Two pre q p) (s:Za):Two (pre++[s]) p (some s):=by
 rcases h with ⟨rfl,rfl,rfl⟩ | ⟨x,rfl,rfl,rfl⟩ | ⟨P0,y,x,rfl,rfl,rfl⟩
 ·exact .inr (.inl ⟨s,rfl,rfl,rfl⟩)
 ·exact .inr (.inr ⟨[],x,s,rfl,rfl,rfl⟩)
 ·exact .inr (.inr ⟨P0++[y],x,s,by simp,rfl,rfl⟩)
theorem COk.ids {l:List Za} (hc:COk l) (hF:∀ s∈l,Fits s.f1):Ids (allI 0 l)∧Ids (allI 1 l):=⟨Z85 0 l (fun s hs=>(hc.ok s hs).1),Z85 1 l (fun s hs=>(hc.ok s hs).1)⟩
theorem enc_l0 {l:List Za} (hc:COk l) (hF:∀ s∈l,Fits s.f1):∀ (suf pre:List Za) (q p:Option Za) (was step:List Int) (la gap:Int) (b:List Int) (f:Nat) (s:List Bool) (i:Int),l=pre++suf→i=(pre.length:Int)→Two pre q p →
  (∀ x,p=some x→was=Z1q x.f1 (allI 0 l) (allI 1 l)∧la=x.f0)→(∀ y x,q=some y→p=some x→step=subR (Z1q x.f1 (allI 0 l) (allI 1 l)) (Z1q y.f1 (allI 0 l) (allI 1 l))∧gap=x.f0-y.f0)→(p=none→la=0) →
  Laid b f s→s.length+80000*suf.length<500000000 →
  ∃ (b':List Int) (f':Nat),Zz.l0 l (lay (allI 0 l),lay (allI 1 l)) b (f:Int) was step la gap i=some (b',(f':Int))∧Laid b' f' (s++body (allI 0 l) (allI 1 l) q p suf):=by
 obtain⟨iP,iN⟩:=hc.ids hF
 have lP:=hc.pos
 have lN:=hc.neg
 intro suf
 induction suf with
 | nil =>
  intro pre q p was step la gap b f s i h1 hi _ _ _ _ h _
  rw[Zz.l0,if_neg (by rw[h1];simp[hi])]
  exact⟨b,f,rfl,by cases q<;>cases p<;>simpa[body] using h⟩
 | cons x suf ih =>
  intro pre q p was step la gap b f s i h1 hi h2 hp hq hn h hs
  have hlen:l.length=pre.length+(suf.length+1):=by rw[h1];simp
  have h32:=hc.len
  have hx:=hc.ok x (by rw[h1];simp)
  have fx:=hF x (by rw[h1];simp)
  have hrl:=Z4d x.f1 (allI 0 l) (allI 1 l)
  have R:=rows_eq hx.1 iP iN (by omega) (by omega)
  have hru:=rows_u64 hx.1 fx (allI 0 l) (allI 1 l)
  generalize eR:Z1q x.f1 (allI 0 l) (allI 1 l)=R0 at *
  simp only[List.length_cons] at hs
  have hup:=hc.up
  rw[h1] at hup
  have h2x:=h2.next x
  have hrep:(List.replicate (Int.toNat (R0.length:Int)) (0:Int))=List.replicate R0.length 0:=by rw[Int.toNat_natCast]
  rw[Zz.l0,if_pos (by simp;omega),Z0a h1 hi,sb,R,sb]
  rcases h2 with ⟨rfl,rfl,rfl⟩ | ⟨y,rfl,rfl,rfl⟩ | ⟨P0,y,w,rfl,rfl,rfl⟩
  ·have hi0:i=0:=by simpa using hi
   subst hi0
   have hla:=hn rfl
   subst hla
   have hc1:=Z14 x.f0.toNat
   obtain⟨b1,f1,e1,g1⟩:=Z67 h (by omega) (n:=x.f0) (by omega) (by omega)
   rw[if_pos (by simp),Z3f (n:=x.f0) (by omega) (by omega),e1,sb,sb]
   dsimp only
   rw[chkB (by omega),hrep]
   have hr0:=Zbw R0
   obtain⟨b2,f2,e2,g2⟩:=e1_0 l x (lay (allI 0 l),lay (allI 1 l)) R0 was step 0 (by omega) hru R0 [] (List.replicate R0.length 0) b1 f1 _ 0 rfl rfl g1 (by simp only[List.length_append];omega)
   rw[e2,sb]
   dsimp only
   rw[Zc (n:=(0:Int)+1) (by omega) (by omega)]
   obtain⟨b3,f3,e3,g3⟩:=ih [x] none (some x) R0 (List.replicate R0.length 0) x.f0 (i64.wrap (x.f0-0)) b2 f2 _ (0+1) (by simp[h1]) (by simp) h2x (fun y hy=>by cases hy;exact⟨eR.symm,rfl⟩) (fun y z hy=>by cases hy) (fun hy=>by cases hy) g2 (by simp only[List.length_append];omega)
   exact⟨b3,f3,e3,by rw[body,eR];simpa using g3⟩
  ·have hi1:i=1:=by simpa using hi
   subst hi1
   obtain⟨rfl,rfl⟩:=hp y rfl
   have hy:=hc.ok y (by rw[h1];simp)
   have hyx:y.f0<x.f0:=(List.pairwise_append.1 hup).2.2 y (by simp) x (by simp)
   have hyl:=Z4d y.f1 (allI 0 l) (allI 1 l)
   have hc1:=Z14 (x.f0-y.f0-1).toNat
   obtain⟨b1,f1,e1,g1⟩:=Z67 h (by omega) (n:=x.f0-y.f0-1) (by omega) (by omega)
   rw[if_neg (by simp),if_pos (by simp),Zc (n:=x.f0-y.f0) (by omega) (by omega),Zc (n:=x.f0-y.f0-1) (by omega) (by omega),Z3f (n:=x.f0-y.f0-1) (by omega) (by omega),e1,sb,sb]
   dsimp only
   rw[sb]
   dsimp only
   rw[chkB (by omega),hrep]
   have hr0:=Z7t R0 (Z1q y.f1 (allI 0 l) (allI 1 l))
   obtain⟨b2,f2,e2,g2⟩:=e1_1 l x (lay (allI 0 l),lay (allI 1 l)) R0 (Z1q y.f1 (allI 0 l) (allI 1 l)) step y.f0 (by omega) R0 [] (Z1q y.f1 (allI 0 l) (allI 1 l)) [] (List.replicate R0.length 0) [] b1 f1 _ 0 rfl rfl rfl (by omega) rfl (by simp) rfl g1 (by simp only[List.length_append];omega)
   rw[List.nil_append] at e2
   rw[e2,sb]
   dsimp only
   rw[Zc (n:=(1:Int)+1) (by omega) (by omega),List.nil_append]
   obtain⟨b3,f3,e3,g3⟩:=ih [y,x] (some y) (some x) R0 (subR R0 (Z1q y.f1 (allI 0 l) (allI 1 l))) x.f0 (x.f0-y.f0) b2 f2 _ (1+1) (by simp[h1]) (by simp) h2x (fun z hz=>by cases hz;exact⟨eR.symm,rfl⟩) (fun z v hz hv=>by cases hz;cases hv;rw[eR];exact⟨rfl,rfl⟩) (fun hy=>by cases hy) g2 (by simp only[List.length_append];omega)
   exact⟨b3,f3,e3,by rw[body,eR];simpa using g3⟩
  ·have hi2:2≤i:=by rw[hi];simp;omega
   obtain⟨rfl,rfl⟩:=hp w rfl
   obtain⟨rfl,rfl⟩:=hq y w rfl rfl
   have hw:=hc.ok w (by rw[h1];simp)
   have hy:=hc.ok y (by rw[h1];simp)
   have hwx:w.f0<x.f0:=(List.pairwise_append.1 hup).2.2 w (by simp) x (by simp)
   have hwl:=Z4d w.f1 (allI 0 l) (allI 1 l)
   have hyl:=Z4d y.f1 (allI 0 l) (allI 1 l)
   have hc1:=Z53 (x.f0-2*w.f0+y.f0)
   have e0:i64.wrap (i64.wrap (x.f0-w.f0)-(w.f0-y.f0))=x.f0-2*w.f0+y.f0:=by
    rw[Zc (n:=x.f0-w.f0) (by omega) (by omega),Zc (by omega) (by omega)];omega
   obtain⟨b1,f1,e1,g1⟩:=wint h (by omega) (a:=x.f0-2*w.f0+y.f0) (by omega)
   rw[if_neg (by simp;omega),if_neg (by simp;omega),e0,e1,sb,sb]
   dsimp only
   rw[sb]
   dsimp only
   rw[chkB (by omega),hrep]
   have hsl:=Z8n (a:=Z1q w.f1 (allI 0 l) (allI 1 l)) (b:=Z1q y.f1 (allI 0 l) (allI 1 l)) (by omega)
   have hsl2:=Z8n (a:=R0) (b:=Z1q w.f1 (allI 0 l) (allI 1 l)) (by omega)
   have hr0:=Z7t (subR R0 (Z1q w.f1 (allI 0 l) (allI 1 l))) (subR (Z1q w.f1 (allI 0 l) (allI 1 l)) (Z1q y.f1 (allI 0 l) (allI 1 l)))
   obtain⟨b2,f2,e2,g2⟩:=e1_2 l x (lay (allI 0 l),lay (allI 1 l)) R0 (Z1q w.f1 (allI 0 l) (allI 1 l)) (subR (Z1q w.f1 (allI 0 l) (allI 1 l)) (Z1q y.f1 (allI 0 l) (allI 1 l))) w.f0 i hi2 (by omega) R0 [] (Z1q w.f1 (allI 0 l) (allI 1 l)) [] (subR (Z1q w.f1 (allI 0 l) (allI 1 l)) (Z1q y.f1 (allI 0 l) (allI 1 l))) [] (List.replicate R0.length 0) [] b1 f1 _ 0 rfl rfl rfl rfl (by omega) rfl (by omega) rfl (by simp) rfl g1 (by simp only[List.length_append];omega)
   rw[List.nil_append] at e2
   rw[e2,sb]
   dsimp only
   rw[Zc (n:=i+1) (by omega) (by omega),List.nil_append,Zc (n:=x.f0-w.f0) (by omega) (by omega)]
   obtain⟨b3,f3,e3,g3⟩:=ih (P0++[y,w]++[x]) (some w) (some x) R0 (subR R0 (Z1q w.f1 (allI 0 l) (allI 1 l))) x.f0 (x.f0-w.f0) b2 f2 _ (i+1) (by simp[h1]) (by simp at hi ⊢;omega) h2x (fun z hz=>by cases hz;exact⟨eR.symm,rfl⟩) (fun z v hz hv=>by cases hz;cases hv;rw[eR];exact⟨rfl,rfl⟩) (fun hy=>by cases hy) g2 (by simp only[List.length_append];omega)
   exact⟨b3,f3,e3,by rw[body,eR];simpa using g3⟩
theorem body_len {l:List Za} (hc:COk l) (hF:∀ s∈l,Fits s.f1):∀ (suf:List Za) (q p:Option Za),(∀ x,p=some x→True)→(body (allI 0 l) (allI 1 l) q p suf).length≤80000*suf.length:=by
 have lP:=hc.pos
 have lN:=hc.neg
 have hr:=fun(h:Zk)=>Z4d h (allI 0 l) (allI 1 l)
 intro suf
 induction suf with
 | nil=>intro q p _;cases q<;>cases p<;>simp[body]
 | cons s suf ih =>
  intro q p hp
  have:=ih p (some s) (fun _ _=>trivial)
  have hs:=hr s.f1
  cases p with
  | none =>
   have h1:=ih none (some s) (fun _ _=>trivial)
   have h2:=Z14 s.f0.toNat
   have h3:=Zbw (Z1q s.f1 (allI 0 l) (allI 1 l))
   cases q<;>simp only[body,List.length_append,List.length_cons]<;>omega
  | some p =>
   have hp:=hr p.f1
   cases q with
   | none =>
    have h2:=Z14 (s.f0-p.f0-1).toNat
    have h3:=Z7t (Z1q s.f1 (allI 0 l) (allI 1 l)) (Z1q p.f1 (allI 0 l) (allI 1 l))
    simp only[body,List.length_append,List.length_cons];omega
   | some q =>
    have hq:=hr q.f1
    have h2:=Z53 (s.f0-2*p.f0+q.f0)
    have h3:=Z7t (subR (Z1q s.f1 (allI 0 l) (allI 1 l)) (Z1q p.f1 (allI 0 l) (allI 1 l))) (subR (Z1q p.f1 (allI 0 l) (allI 1 l)) (Z1q q.f1 (allI 0 l) (allI 1 l)))
    have h4:=Z8n (a:=Z1q s.f1 (allI 0 l) (allI 1 l)) (b:=Z1q p.f1 (allI 0 l) (allI 1 l)) (by omega)
    simp only[body,List.length_append,List.length_cons];omega
def Z6d (l:List Za):List Bool:=match l with
 | []=>[]
 | h::_=>[h.f1.f0==1]++(nb (h.f1.f1+4).toNat 4++(intB h.f1.f2++(lyB (lay (allI 0 l))++(lyB (lay (allI 1 l))++(cnt2 (l.length-1)++body (allI 0 l) (allI 1 l) none none l)))))
theorem Zb5 {l:List Za} (hc:COk l) (hF:∀ s∈l,Fits s.f1):(Z6d l).length≤3000000:=by
 cases l with
 | nil=>simp[Z6d]
 | cons h r =>
  have h1:=Z53 h.f1.f2
  have h2:=Zax (lay (allI 0 (h::r)))
  have h3:=Zax (lay (allI 1 (h::r)))
  have h4:=@Z4v (allI 0 (h::r))
  have h5:=@Z4v (allI 1 (h::r))
  have h6:=Z14 ((h::r).length-1)
  have h7:=body_len hc hF (h::r) none none (fun _ _=>trivial)
  have lP:=hc.pos
  have lN:=hc.neg
  have h32:=hc.len
  simp only[Z6d,List.length_append,Z2x,List.length_singleton]
  omega
theorem wbit0 (f:Int) (x:Bool):Z34.f f x=Z0h.f [] f x:=by kernel_rfl
theorem enc_eq {l:List Za} (hc:COk l) (hne:l≠[]) (hF:∀ s∈l,Fits s.f1) (hk:Z1h.f l=some 0):∃ (b:List Int) (f:Nat),Zz.f l=some (b,0)∧Laid b f (Z6d l):=by
 obtain⟨iP,iN⟩:=hc.ids hF
 have lP:=hc.pos
 have lN:=hc.neg
 have h32:=hc.len
 have vs:∀ s∈l,Z3k s.f1:=fun s hs=>(hc.ok s hs).1
 obtain⟨h,r,rfl⟩:∃ h r,l=h::r:=by
  cases l with
  | nil=>exact absurd rfl hne
  | cons h r=>exact⟨h,r,rfl⟩
 have vh:=vs h (by simp)
 have fh:=hF h (by simp)
 have hsch:=vh.schema
 have hz:=vh.zero
 have h1:=Z53 h.f1.f2
 have h2:=Zax (lay (allI 0 (h::r)))
 have h3:=Zax (lay (allI 1 (h::r)))
 have h4:=@Z4v (allI 0 (h::r))
 have h5:=@Z4v (allI 1 (h::r))
 have h6:=Z14 ((h::r).length-1)
 have q0:=Zdi iP
 have q1:=Zdi iN
 have hw:u64.wrap (i64.wrap (h.f1.f1-(-4)))=h.f1.f1+4:=by
  have:=hsch.1;have:=hsch.2
  rw[Zc (by omega) (by omega),Z3f (by omega) (by omega)];omega
 have hs1:=hsch.1
 have hs2:=hsch.2
 unfold Zz.f
 rw[hk,sb,if_neg (by simp),show at? (h::r) 0=some h from rfl,sb,lays_eq _ (by omega) vs,sb,wbit0]
 obtain⟨b1,f1,e1,g1⟩:=wbit Laid.nil (by simp) (h.f1.f0==1)
 rw[show Z0h.f [] 0 (h.f1.f0==1)=_ from e1,sb,hw]
 dsimp only
 obtain⟨b2,f2,e2,g2⟩:=wput g1 (by simp) (n:=h.f1.f1+4) (by omega) (by omega) (k:=4) (by omega)
 rw[show Zy.f b1 (f1:Int) (h.f1.f1+4) 4=_ from e2,sb]
 dsimp only
 obtain⟨b3,f3,e3,g3⟩:=wint g2 (by simp[Z2x]) (a:=h.f1.f2) (by omega)
 rw[e3,sb]
 dsimp only
 obtain⟨b4,f4,e4,g4⟩:=wspan (lay (allI 0 (h::r))) (by omega) (Zay iP lP) (by omega) (by simp[Z2x];omega) g3
 rw[e4,sb]
 dsimp only
 obtain⟨b5,f5,e5,g5⟩:=wspan (lay (allI 1 (h::r))) (by omega) (Zay iN lN) (by omega) (by simp[Z2x];omega) g4
 rw[e5,sb]
 dsimp only
 have hln:u64.wrap (i64.wrap (((h::r).length:Int)-1))=(((h::r).length-1:Nat):Int):=by
  simp only[List.length_cons] at h32 ⊢
  rw[Zc (by omega) (by omega),Z3f (by omega) (by omega)];omega
 obtain⟨b6,f6,e6,g6⟩:=Z67 g5 (by simp[Z2x];omega) (n:=(((h::r).length-1:Nat):Int)) (by omega) (by omega)
 rw[hln,e6,sb]
 dsimp only
 rw[Int.toNat_natCast] at g6
 obtain⟨b7,f7,e7,g7⟩:=enc_l0 hc hF (h::r) [] none none [] [] 0 0 b6 f6 _ 0 rfl rfl (.inl ⟨rfl,rfl,rfl⟩) (fun x hx=>by cases hx) (fun y x hy=>by cases hy) (fun _=>rfl) g6 (by simp only[List.length_append,List.length_nil,List.length_singleton,Z2x];omega)
 rw[show Zz.l0 (h::r) (lay (allI 0 (h::r)),lay (allI 1 (h::r))) b6 (f6:Int) [] [] 0 0 0=_ from e7,sb]
 have hfin:Laid b7 f7 (Z6d (h::r)):=by
  unfold Z6d
  simpa using g7
 have hbl:=hfin.len
 have hcl:=Zb5 hc hF
 have hlt:=hfin.lt
 dsimp only
 unfold Z13.f Z2u.f
 rw[chkB (by simp;omega),sb,sb]
 exact⟨b7,f7,rfl,hfin⟩
end Go.Proofs.YtinhldbfifpakaaGreat.PvGL1
set_option linter.unusedVariables false
set_option linter.unusedSimpArgs false
set_option maxRecDepth 10000
namespace Go.Proofs.YtinhldbfifpakaaGreat.PvGL1
open Go Go.Pv Go.Pv.GS Go.IntKind
theorem Zar {n:Int} (h:U64 n):Z00.f n=some (strB (cnt2 n.toNat)):=by
 have:=Z8e (n:=n.toNat) (by have:=h.1;have:=h.2;omega)
 rwa [Int.toNat_of_nonneg h.1] at this
theorem renc_1 (l:List Za) (P N now:List Int) (q:Int) (hl:now.length<1000000) (hu:∀ n∈now,U64 n):∀ (suf pre:List Int) (s:List Bool) (k:Int),now=pre++suf→k=(pre.length:Int)→s.length+71*suf.length<700000000 →
  Z09.l1 l P N now q (strB s) k=some (strB (s++row0 suf)):=by
 intro suf
 induction suf with
 | nil=>intro pre s k h1 hk hs;rw[Z09.l1,if_neg (by rw[h1];simp[hk])];simp[row0]
 | cons n suf ih =>
  intro pre s k h1 hk hs
  have hlen:now.length=pre.length+(suf.length+1):=by rw[h1];simp
  have hn:=hu n (by rw[h1];simp)
  have hc:=Z14 n.toNat
  simp only[List.length_cons] at hs
  rw[Z09.l1,if_pos (by simp;omega),Z0a h1 hk,sb,Zar hn,sb,chkB (by rw[Zt,Zt];omega),Zc (n:=k+1) (by omega) (by omega),← Z0p,ih (pre++[n]) _ (k+1) (by simp[h1]) (by simp;omega) (by simp only[List.length_append];omega),Zc8]
  simp
theorem renc_2 (l:List Za) (P N now was:List Int) (q:Int) (hl:now.length<1000000):∀ (sn pn sw pw:List Int) (s:List Bool) (k:Int),now=pn++sn→was=pw++sw→pw.length=pn.length→sw.length=sn.length→k=(pn.length:Int)→s.length+71*sn.length<700000000 →
  Z09.l2 l P N now was q (strB s) k=some (strB (s++row1 sn sw)):=by
 intro sn
 induction sn with
 | nil=>intro pn sw pw s k h1 h2 l1 l2 hk hs;rw[Z09.l2,if_neg (by rw[h1];simp[hk])];simp[row1]
 | cons n sn ih =>
  intro pn sw pw s k h1 h2 l1 l2 hk hs
  cases sw with
  | nil=>simp at l2
  | cons w sw =>
   have hlen:now.length=pn.length+(sn.length+1):=by rw[h1];simp
   have hI:=Z8t (u64.wrap (n-w))
   have hc:=Z53 (i64.wrap (u64.wrap (n-w)))
   simp only[List.length_cons] at hs
   rw[Z09.l2,if_pos (by simp;omega),Z0a h1 hk,sb,Z0a h2 (by omega),sb,rint hI,sb,chkB (by rw[Zt,Zt];omega),Zc (n:=k+1) (by omega) (by omega),← Z0p,ih (pn++[n]) sw (pw++[w]) _ (k+1) (by simp[h1]) (by simp[h2]) (by simp[l1]) (by simpa using l2) (by simp;omega) (by simp only[List.length_append];omega),Z7c]
   simp
theorem diff2 (n w e:Int):u64.wrap (u64.wrap (n-u64.wrap (2*w))+e)=u64.wrap (u64.wrap (n-w)-u64.wrap (w-e)):=by simp only[Z5p];omega
theorem renc_3 (l:List Za) (P N now was eld:List Int) (q:Int) (hl:now.length<1000000):∀ (sn pn sw pw se pe:List Int) (s:List Bool) (k:Int),now=pn++sn→was=pw++sw→eld=pe++se→pw.length=pn.length→sw.length=sn.length→pe.length=pn.length→se.length=sn.length→k=(pn.length:Int)→s.length+71*sn.length<700000000 →
  Z09.l3 l P N now was eld q (strB s) k=some (strB (s++row1 (subR sn sw) (subR sw se))):=by
 intro sn
 induction sn with
 | nil=>intro pn sw pw se pe s k h1 h2 h3 l1 l2 l3 l4 hk hs;rw[Z09.l3,if_neg (by rw[h1];simp[hk])];simp[row1,subR]
 | cons n sn ih =>
  intro pn sw pw se pe s k h1 h2 h3 l1 l2 l3 l4 hk hs
  cases sw with
  | nil=>simp at l2
  | cons w sw =>
   cases se with
   | nil=>simp at l4
   | cons e se =>
    have hlen:now.length=pn.length+(sn.length+1):=by rw[h1];simp
    have hI:=Z8t (u64.wrap (u64.wrap (n-w)-u64.wrap (w-e)))
    have hc:=Z53 (i64.wrap (u64.wrap (u64.wrap (n-w)-u64.wrap (w-e))))
    simp only[List.length_cons] at hs
    rw[Z09.l3,if_pos (by simp;omega),Z0a h1 hk,sb,Z0a h2 (by omega),sb,Z0a h3 (by omega),sb,diff2,rint hI,sb,chkB (by rw[Zt,Zt];omega),Zc (n:=k+1) (by omega) (by omega),← Z0p,ih (pn++[n]) sw (pw++[w]) se (pe++[e]) _ (k+1) (by simp[h1]) (by simp[h2]) (by simp[h3]) (by simp[l1]) (by simpa using l2) (by simp[l3]) (by simpa using l4) (by simp;omega) (by simp only[List.length_append];omega),Z69,Z69,Z7c]
    simp
theorem renc_l0 {l:List Za} (hc:COk l) (hF:∀ s∈l,Fits s.f1):∀ (suf pre:List Za) (q p:Option Za) (s:List Bool) (i:Int),l=pre++suf→i=(pre.length:Int)→Two pre q p→s.length+80000*suf.length<500000000 →
  Z09.l0 l (allI 0 l) (allI 1 l) (strB s) i=some (strB (s++body (allI 0 l) (allI 1 l) q p suf)):=by
 have lP:=hc.pos
 have lN:=hc.neg
 intro suf
 induction suf with
 | nil =>
  intro pre q p s i h1 hi _ _
  rw[Z09.l0,if_neg (by rw[h1];simp[hi])]
  cases q<;>cases p<;>simp[body]
 | cons x suf ih =>
  intro pre q p s i h1 hi h2 hs
  have hlen:l.length=pre.length+(suf.length+1):=by rw[h1];simp
  have h32:=hc.len
  have hx:=hc.ok x (by rw[h1];simp)
  have fx:=hF x (by rw[h1];simp)
  have hrl:=Z4d x.f1 (allI 0 l) (allI 1 l)
  have R:=num_eq hx.1 (allI 0 l) (allI 1 l) (by omega) (by omega)
  have hru:=rows_u64 hx.1 fx (allI 0 l) (allI 1 l)
  simp only[List.length_cons] at hs
  have hup:=hc.up
  rw[h1] at hup
  have h2x:=h2.next x
  rw[Z09.l0,if_pos (by simp;omega),Z0a h1 hi,sb,R,sb,Zc (n:=i+1) (by omega) (by omega)]
  rcases h2 with ⟨rfl,rfl,rfl⟩ | ⟨y,rfl,rfl,rfl⟩ | ⟨P0,y,w,rfl,rfl,rfl⟩
  ·have hi0:i=0:=by simpa using hi
   subst hi0
   have hc1:=Z14 x.f0.toNat
   have hr0:=Zbw (Z1q x.f1 (allI 0 l) (allI 1 l))
   rw[if_pos (by simp),Z0a h1 hi,sb,Z3f (n:=x.f0) (by omega) (by omega),Zar ⟨hx.2.1,by omega⟩,sb,chkB (by rw[Zt,Zt];omega),← Z0p,renc_1 l _ _ (Z1q x.f1 (allI 0 l) (allI 1 l)) 0 (by omega) hru (Z1q x.f1 (allI 0 l) (allI 1 l)) [] _ 0 rfl rfl (by simp only[List.length_append];omega),sb,sb]
   rw[ih [x] none (some x) _ (0+1) (by simp[h1]) (by simp) h2x (by simp only[List.length_append];omega),body]
   simp
  ·have hi1:i=1:=by simpa using hi
   subst hi1
   have hy:=hc.ok y (by rw[h1];simp)
   have hyx:y.f0<x.f0:=(List.pairwise_append.1 hup).2.2 y (by simp) x (by simp)
   have hyl:=Z4d y.f1 (allI 0 l) (allI 1 l)
   have hc1:=Z14 (x.f0-y.f0-1).toNat
   have hr0:=Z7t (Z1q x.f1 (allI 0 l) (allI 1 l)) (Z1q y.f1 (allI 0 l) (allI 1 l))
   have a1:at? l 1=some x:=Z0a h1 hi
   have a0:at? l 0=some y:=Z0a (pre:=[]) (x:=y) (suf:=x::suf) (by simp[h1]) rfl
   rw[if_neg (by simp),show i64.wrap ((1:Int)-1)=0 by decide,a0,sb,num_eq hy.1 _ _ (by omega) (by omega),sb,if_pos (by simp),a1,sb,sb,Zc (n:=x.f0-y.f0) (by omega) (by omega),Zc (n:=x.f0-y.f0-1) (by omega) (by omega),Z3f (n:=x.f0-y.f0-1) (by omega) (by omega),Zar ⟨by omega,by omega⟩,sb,chkB (by rw[Zt,Zt];omega),← Z0p,
    renc_2 l _ _ (Z1q x.f1 (allI 0 l) (allI 1 l)) (Z1q y.f1 (allI 0 l) (allI 1 l)) 1 (by omega) (Z1q x.f1 (allI 0 l) (allI 1 l)) [] (Z1q y.f1 (allI 0 l) (allI 1 l)) [] _ 0 rfl rfl rfl (by omega) rfl (by simp only[List.length_append];omega),sb,sb]
   rw[ih [y,x] (some y) (some x) _ (1+1) (by simp[h1]) (by simp) h2x (by simp only[List.length_append];omega),body]
   simp
  ·have hi2:i=(P0.length:Int)+2:=by rw[hi];simp
   have hw:=hc.ok w (by rw[h1];simp)
   have hy:=hc.ok y (by rw[h1];simp)
   have hwx:w.f0<x.f0:=(List.pairwise_append.1 hup).2.2 w (by simp) x (by simp)
   have hwl:=Z4d w.f1 (allI 0 l) (allI 1 l)
   have hyl:=Z4d y.f1 (allI 0 l) (allI 1 l)
   have hc1:=Z53 (x.f0-2*w.f0+y.f0)
   have hsl2:=Z8n (a:=Z1q x.f1 (allI 0 l) (allI 1 l)) (b:=Z1q w.f1 (allI 0 l) (allI 1 l)) (by omega)
   have hr0:=Z7t (subR (Z1q x.f1 (allI 0 l) (allI 1 l)) (Z1q w.f1 (allI 0 l) (allI 1 l))) (subR (Z1q w.f1 (allI 0 l) (allI 1 l)) (Z1q y.f1 (allI 0 l) (allI 1 l)))
   have aw:at? l (i-1)=some w:=Z0a (pre:=P0++[y]) (x:=w) (suf:=x::suf) (by simp[h1]) (by simp;omega)
   have ay:at? l (i-2)=some y:=Z0a (pre:=P0) (x:=y) (suf:=w::x::suf) (by simp[h1]) (by omega)
   rw[if_neg (by simp;omega),Zc (n:=i-1) (by omega) (by omega),aw,sb,num_eq hw.1 _ _ (by omega) (by omega),sb,if_neg (by simp;omega),Zc (n:=i-2) (by omega) (by omega),ay,sb,num_eq hy.1 _ _ (by omega) (by omega),sb,
    Zc (n:=2*w.f0) (by omega) (by omega),Zc (n:=x.f0-2*w.f0) (by omega) (by omega),Zc (n:=x.f0-2*w.f0+y.f0) (by omega) (by omega),rint (a:=x.f0-2*w.f0+y.f0) (by omega),sb,chkB (by rw[Zt,Zt];omega),← Z0p,
    renc_3 l _ _ (Z1q x.f1 (allI 0 l) (allI 1 l)) (Z1q w.f1 (allI 0 l) (allI 1 l)) (Z1q y.f1 (allI 0 l) (allI 1 l)) i (by omega) (Z1q x.f1 (allI 0 l) (allI 1 l)) [] (Z1q w.f1 (allI 0 l) (allI 1 l)) [] (Z1q y.f1 (allI 0 l) (allI 1 l)) [] _ 0 rfl rfl rfl rfl (by omega) rfl (by omega) rfl (by simp only[List.length_append];omega),sb,sb]
   rw[ih (P0++[y,w]++[x]) (some w) (some x) _ (i+1) (by simp[h1]) (by simp at hi ⊢;omega) h2x (by simp only[List.length_append];omega),body]
   simp
theorem renc_eq {l:List Za} (hc:COk l) (hne:l≠[]) (hF:∀ s∈l,Fits s.f1):∃ (b:List Int) (f:Nat),Z09.f l=some b∧Laid b f (Z6d l):=by
 obtain⟨iP,iN⟩:=hc.ids hF
 have lP:=hc.pos
 have lN:=hc.neg
 have h32:=hc.len
 have vs:∀ s∈l,Z3k s.f1:=fun s hs=>(hc.ok s hs).1
 have hcl:=Zb5 hc hF
 obtain⟨h,r,rfl⟩:∃ h r,l=h::r:=by
  cases l with
  | nil=>exact absurd rfl hne
  | cons h r=>exact⟨h,r,rfl⟩
 have vh:=vs h (by simp)
 have hsch:=vh.schema
 have hz:=vh.zero
 have hk:=vh.kind
 have h1:=Z53 h.f1.f2
 have h2:=Zax (lay (allI 0 (h::r)))
 have h3:=Zax (lay (allI 1 (h::r)))
 have h4:=@Z4v (allI 0 (h::r))
 have h5:=@Z4v (allI 1 (h::r))
 have h6:=Z14 ((h::r).length-1)
 have q0:=Zdi iP
 have q1:=Zdi iN
 have hs1:=hsch.1
 have hs2:=hsch.2
 have hw:u64.wrap (i64.wrap (h.f1.f1+4))=(((h.f1.f1+4).toNat:Nat):Int):=by
  rw[Zc (by omega) (by omega),Z3f (by omega) (by omega)];omega
 have hkk:Z27.f (u64.wrap h.f1.f0) 1=some (strB [h.f1.f0==1]):=by
  rcases hk with e | e
  ·rw[e];have:=rput (n:=0) (k:=1) (by omega) (by omega);exact this
  ·rw[e];have:=rput (n:=1) (k:=1) (by omega) (by omega);exact this
 have hln:u64.wrap (i64.wrap (((h::r).length:Int)-1))=(((h::r).length-1:Nat):Int):=by
  simp only[List.length_cons] at h32 ⊢
  rw[Zc (by omega) (by omega),Z3f (by omega) (by omega)];omega
 unfold Z09.f
 rw[show at? (h::r) 0=some h from rfl,sb,rall_eq _ (by omega) vs (.inl rfl),sb,rall_eq _ (by omega) vs (.inr rfl),sb,hkk,sb,hw,show Z27.f (((h.f1.f1+4).toNat:Nat):Int) 4=_ from rput (k:=4) (by omega) (by omega),sb]
 rw[chkB (by rw[Zt,Zt,Z2x];simp),rint (by omega),sb,← Z0p,chkB (by rw[Zt,Zt];simp only[List.length_append,Z2x,List.length_singleton];omega),rof_eq (by omega) iP.sm,sb,← Z0p]
 rw[rspan (lay (allI 0 (h::r))) (by omega) (Zay iP lP) (by omega),sb,chkB (by rw[Zt,Zt];simp only[List.length_append,Z2x,List.length_singleton];omega),rof_eq (by omega) iN.sm,sb,← Z0p]
 rw[rspan (lay (allI 1 (h::r))) (by omega) (Zay iN lN) (by omega),sb,chkB (by rw[Zt,Zt];simp only[List.length_append,Z2x,List.length_singleton];omega),← Z0p,hln,Z8e (by omega),sb,chkB (by rw[Zt,Zt];simp only[List.length_append,Z2x,List.length_singleton];omega),← Z0p]
 rw[renc_l0 hc hF (h::r) [] none none _ 0 rfl rfl (.inl ⟨rfl,rfl,rfl⟩) (by simp only[List.length_append,Z2x,List.length_singleton];omega),sb]
 have e:[h.f1.f0==1]++nb (h.f1.f1+4).toNat 4++intB h.f1.f2++lyB (lay (allI 0 (h::r)))++lyB (lay (allI 1 (h::r)))++cnt2 ((h::r).length-1)++body (allI 0 (h::r)) (allI 1 (h::r)) none none (h::r)=Z6d (h::r):=by
  unfold Z6d;simp
 rw[e]
 obtain⟨b,f,eb,hb⟩:=rbytes (Z6d (h::r)) (by omega)
 rw[eb,sb]
 exact⟨b,f,rfl,hb⟩
end Go.Proofs.YtinhldbfifpakaaGreat.PvGL1
set_option linter.unusedVariables false
set_option linter.unusedSimpArgs false
set_option maxRecDepth 10000
namespace Go.Proofs.YtinhldbfifpakaaGreat.PvGL1
open Go Go.Pv Go.Pv.GS Go.IntKind
variable {b:List Int}
theorem Z9b {p n:Nat} (hp:p≤1000000) (hn:n≤1000000):i64.wrap (i64.wrap ((2:Int)+(p:Int))+(n:Int))=((2+p+n:Nat):Int):=by
 rw[Zc (n:=(2:Int)+(p:Int)) (by omega) (by omega),Zc (by omega) (by omega)];omega
theorem s1_0 (hb:Src b) (H:Zk) (L M:Zd) (t:Int×Int×Int) (P N:List Int) (hP:P.length≤1000000) (hN:N.length≤1000000) (la:Int) (o:List Za) (tm:Int) (step:List Int) (z:List Bool) :
  ∀ (sn pn sx:List Int) (a:Nat) (k:Int),pn.length+sn.length=2+P.length+N.length→sx.length=sn.length→k=(pn.length:Int)→(∀ n∈sn,U64 n)→a≤8*b.length→(Z06 b).drop a=row0 sn++z →
  ∃ a':Nat,Zr.l1 b H L M t P N la o 0 tm (a:Int) 0 (pn++sx) step k=some ((a':Int),0,pn++sn,step)∧a'≤8*b.length∧(Z06 b).drop a'=z:=by
 intro sn
 induction sn with
 | nil =>
  intro pn sx a k h1 h2 hk _ ha h
  have hsx:sx=[]:=List.length_eq_zero_iff.1 (by simpa using h2)
  subst hsx
  rw[Zr.l1,Z9b hP hN,if_neg (by simp at h1 ⊢;omega)]
  exact⟨a,rfl,ha,by simpa[row0] using h⟩
 | cons n sn ih =>
  intro pn sx a k h1 h2 hk hu ha h
  cases sx with
  | nil=>simp at h2
  | cons x sx =>
   simp only[List.length_cons] at h1 h2
   have hn:=hu n (by simp)
   rw[Zc8,List.append_assoc] at h
   have c:=Zcu hb (n:=n.toNat) (by have:=hn.1;have:=hn.2;omega) ha h
   have l1:=congrArg List.length h
   simp only[List.length_drop,Z0u,List.length_append] at l1
   rw[Int.toNat_of_nonneg hn.1] at c
   rw[Zr.l1,Z9b hP hN,if_pos (by simp;omega),if_pos (by simp),c,sb,Z6i pn x sx hk,sb,sb]
   dsimp only
   rw[Z8c pn x n sx hk,Zc (n:=k+1) (by omega) (by omega)]
   obtain⟨a',e,g1,g2⟩:=ih (pn++[n]) sx (a+(cnt2 n.toNat).length) (k+1) (by simp;omega) (by omega) (by simp;omega) (fun m hm=>hu m (by simp[hm])) (by omega) (by rw[← List.drop_drop,h,List.drop_left])
   rw[List.append_assoc,List.singleton_append,List.append_assoc,List.singleton_append] at e
   exact⟨a',e,g1,g2⟩
theorem back1 {n w:Int} (hn:U64 n):u64.wrap (w+u64.wrap (i64.wrap (u64.wrap (n-w))))=n:=by
 have:=hn.1;have:=hn.2
 simp only[Z5p,Z66];omega
theorem s1_1 (hb:Src b) (H:Zk) (L M:Zd) (t:Int×Int×Int) (P N:List Int) (hP:P.length≤1000000) (hN:N.length≤1000000) (la:Int) (o:List Za) (tm:Int) (z:List Bool) :
  ∀ (sn pn sw ss ps:List Int) (a:Nat) (k:Int),pn.length+sn.length=2+P.length+N.length→sw.length=sn.length→ss.length=sn.length→ps.length=pn.length→k=(pn.length:Int)→(∀ n∈sn,U64 n)→a≤8*b.length→(Z06 b).drop a=row1 sn sw++z →
  ∃ a':Nat,Zr.l1 b H L M t P N la o 1 tm (a:Int) 0 (pn++sw) (ps++ss) k=some ((a':Int),0,pn++sn,ps++subR sn sw)∧a'≤8*b.length∧(Z06 b).drop a'=z:=by
 intro sn
 induction sn with
 | nil =>
  intro pn sw ss ps a k h1 h2 h3 h4 hk _ ha h
  have hsw:sw=[]:=List.length_eq_zero_iff.1 (by simpa using h2)
  have hss:ss=[]:=List.length_eq_zero_iff.1 (by simpa using h3)
  subst hsw;subst hss
  rw[Zr.l1,Z9b hP hN,if_neg (by simp at h1 ⊢;omega)]
  exact⟨a,by simp[subR],ha,by simpa[row1] using h⟩
 | cons n sn ih =>
  intro pn sw ss ps a k h1 h2 h3 h4 hk hu ha h
  cases sw with
  | nil=>simp at h2
  | cons w sw =>
   cases ss with
   | nil=>simp at h3
   | cons v ss =>
    simp only[List.length_cons] at h1 h2 h3
    have hn:=hu n (by simp)
    rw[Z7c,List.append_assoc] at h
    have c:=Zco hb (Z8t (u64.wrap (n-w))) ha h
    have l1:=congrArg List.length h
    simp only[List.length_drop,Z0u,List.length_append] at l1
    have hst:u64.wrap (i64.wrap (u64.wrap (n-w)))=u64.wrap (n-w):=by simp only[Z5p,Z66];omega
    have hbk:=back1 (w:=w) hn
    rw[hst] at hbk
    rw[Zr.l1,Z9b hP hN,if_pos (by simp;omega),if_neg (by simp),if_pos (by simp),c,sb,Z6i ps v ss (by omega),sb,Z6i pn w sw hk,sb]
    dsimp only
    rw[Z8c ps v _ ss (by omega),Z6i ps _ ss (by omega),sb,sb]
    dsimp only
    rw[sb]
    dsimp only
    rw[Z8c pn w _ sw hk,hst,hbk,Zc (n:=k+1) (by omega) (by omega)]
    obtain⟨a',e,g1,g2⟩:=ih (pn++[n]) sw ss (ps++[u64.wrap (n-w)]) (a+(intB (i64.wrap (u64.wrap (n-w)))).length) (k+1) (by simp;omega) (by omega) (by omega) (by simp;omega) (by simp;omega) (fun m hm=>hu m (by simp[hm])) (by omega) (by rw[← List.drop_drop,h,List.drop_left])
    rw[List.append_assoc,List.singleton_append,List.append_assoc,List.singleton_append,List.append_assoc,List.singleton_append,List.append_assoc,List.singleton_append] at e
    exact⟨a',by rw[Z69];exact e,g1,g2⟩
theorem s1_2 (hb:Src b) (H:Zk) (L M:Zd) (t:Int×Int×Int) (P N:List Int) (hP:P.length≤1000000) (hN:N.length≤1000000) (la:Int) (o:List Za) (i tm:Int) (hi:2≤i) (z:List Bool) :
  ∀ (sn pn sw ss ps:List Int) (a:Nat) (k:Int),pn.length+sn.length=2+P.length+N.length→sw.length=sn.length→ss.length=sn.length→ps.length=pn.length→k=(pn.length:Int)→(∀ n∈sn,U64 n)→a≤8*b.length→(Z06 b).drop a=row1 (subR sn sw) ss++z →
  ∃ a':Nat,Zr.l1 b H L M t P N la o i tm (a:Int) 0 (pn++sw) (ps++ss) k=some ((a':Int),0,pn++sn,ps++subR sn sw)∧a'≤8*b.length∧(Z06 b).drop a'=z:=by
 intro sn
 induction sn with
 | nil =>
  intro pn sw ss ps a k h1 h2 h3 h4 hk _ ha h
  have hsw:sw=[]:=List.length_eq_zero_iff.1 (by simpa using h2)
  have hss:ss=[]:=List.length_eq_zero_iff.1 (by simpa using h3)
  subst hsw;subst hss
  rw[Zr.l1,Z9b hP hN,if_neg (by simp at h1 ⊢;omega)]
  exact⟨a,by simp[subR],ha,by simpa[row1,subR] using h⟩
 | cons n sn ih =>
  intro pn sw ss ps a k h1 h2 h3 h4 hk hu ha h
  cases sw with
  | nil=>simp at h2
  | cons w sw =>
   cases ss with
   | nil=>simp at h3
   | cons v ss =>
    simp only[List.length_cons] at h1 h2 h3
    have hn:=hu n (by simp)
    rw[Z69,Z7c,List.append_assoc] at h
    have c:=Zco hb (Z8t (u64.wrap (u64.wrap (n-w)-v))) ha h
    have l1:=congrArg List.length h
    simp only[List.length_drop,Z0u,List.length_append] at l1
    have hst:u64.wrap (v+u64.wrap (i64.wrap (u64.wrap (u64.wrap (n-w)-v))))=u64.wrap (n-w):=by simp only[Z5p,Z66];omega
    have hbk:u64.wrap (w+u64.wrap (n-w))=n:=by
     have:=hn.1;have:=hn.2
     simp only[Z5p];omega
    rw[Zr.l1,Z9b hP hN,if_pos (by simp;omega),if_neg (by simp;omega),if_neg (by simp;omega),Z6i ps v ss (by omega),sb,c,sb,Z6i pn w sw hk,sb]
    dsimp only
    rw[Z8c ps v _ ss (by omega),Z6i ps _ ss (by omega),sb,sb]
    dsimp only
    rw[sb]
    dsimp only
    rw[Z8c pn w _ sw hk,hst,hbk,Zc (n:=k+1) (by omega) (by omega)]
    obtain⟨a',e,g1,g2⟩:=ih (pn++[n]) sw ss (ps++[u64.wrap (n-w)]) (a+(intB (i64.wrap (u64.wrap (u64.wrap (n-w)-v)))).length) (k+1) (by simp;omega) (by omega) (by omega) (by simp;omega) (by simp;omega) (fun m hm=>hu m (by simp[hm])) (by omega) (by rw[← List.drop_drop,h,List.drop_left])
    rw[List.append_assoc,List.singleton_append,List.append_assoc,List.singleton_append,List.append_assoc,List.singleton_append,List.append_assoc,List.singleton_append] at e
    exact⟨a',by rw[Z69];exact e,g1,g2⟩
theorem make_id {h g:Zk} (v:Z3k h) (f:Fits h) (e0:g.f0=h.f0) (e1:g.f1=h.f1) (e2:g.f2=h.f2) (e3:g.f3=h.f3) (e5:g.f5=h.f5):Z3a.f g h.f6 h.f7=some (h,0):=by
 have m0:=v.pos.len
 have m1:=v.neg.len
 have ht:=v.total
 have t1:=tidy_id h.f6 (by omega) (fun y hy=>(f.pos y hy).2) v.pos.canon
 have t2:=tidy_id h.f7 (by omega) (fun y hy=>(f.neg y hy).2) v.neg.canon
 have t3:=total3 h.f6 h.f7 h.f3 (by omega) (by omega) (fun y hy=>(f.pos y hy).2) (fun y hy=>(f.neg y hy).2) f.zero
 rw[if_pos ht,← v.count] at t3
 unfold Z3a.f
 rw[t1,sb,t2,sb,if_neg (by simp),e3,t3,sb,if_neg (by simp),e0,e1,e2,e5]
 dsimp only
 rw[show Z0f.f (⟨h.f0,h.f1,h.f2,h.f3,h.f4,h.f5,h.f6,h.f7⟩:Zk)=_ from check_T h f v,sb,if_neg (by simp)]
theorem cut_p (h:Zk) (P N:List Int):((Z1q h P N).drop (Int.toNat (2:Int))).take (Int.toNat (((2+P.length:Nat):Int))-Int.toNat (2:Int))=P.map (tot h.f6):=by
 have e:(Z1q h P N).drop 2=P.map (tot h.f6)++N.map (tot h.f7):=by unfold Z1q;simp
 rw[show Int.toNat (2:Int)=2 from rfl,e,Int.toNat_natCast,Nat.add_sub_cancel_left,List.take_left' (by simp)]
theorem cut_n (h:Zk) (P N:List Int):((Z1q h P N).drop (Int.toNat (((2+P.length:Nat):Int)))).take (Int.toNat (((Z1q h P N).length:Int))-Int.toNat (((2+P.length:Nat):Int)))=N.map (tot h.f7):=by
 have e:(Z1q h P N).drop (2+P.length)=N.map (tot h.f7):=by
  unfold Z1q
  rw[List.drop_left' (by simp;omega)]
 rw[Int.toNat_natCast,Int.toNat_natCast,e,Z4d]
 exact List.take_of_length_le (by simp)
theorem smp_l0 (hb:Src b) {l:List Za} (hc:COk l) (hF:∀ s∈l,Fits s.f1) (H:Zk) (hH:∀ s∈l,H.f0=s.f1.f0∧H.f1=s.f1.f1∧H.f2=s.f1.f2) (t:Int×Int×Int) (ht:t.1=(l.length:Int)-1) (z:List Bool) :
  ∀ (suf pre:List Za) (q p:Option Za) (was step:List Int) (la gap:Int) (a:Nat) (i:Int),l=pre++suf→i=(pre.length:Int)→Two pre q p→was.length=2+(allI 0 l).length+(allI 1 l).length→step.length=2+(allI 0 l).length+(allI 1 l).length →
  (∀ x,p=some x→was=Z1q x.f1 (allI 0 l) (allI 1 l)∧la=x.f0)→(∀ y x,q=some y→p=some x→step=subR (Z1q x.f1 (allI 0 l) (allI 1 l)) (Z1q y.f1 (allI 0 l) (allI 1 l))∧gap=x.f0-y.f0)→(p=none→la=0) →
  a≤8*b.length→(Z06 b).drop a=body (allI 0 l) (allI 1 l) q p suf++z →
  ∃ a':Nat,Zr.l0 b H (lay (allI 0 l)) (lay (allI 1 l)) t (allI 0 l) (allI 1 l) ((a:Int),0,was,step,la,gap,pre,i)=some (l,(a':Int),0)∧a'≤8*b.length∧(Z06 b).drop a'=z:=by
 obtain⟨iP,iN⟩:=hc.ids hF
 have lP:=hc.pos
 have lN:=hc.neg
 have h32:=hc.len
 intro suf
 induction suf with
 | nil =>
  intro pre q p was step la gap a i h1 hi h2 hw hs hp hq hn ha h
  rw[List.append_nil] at h1
  subst h1
  rw[Zr.l0]
  dsimp only
  rw[ht,Zc (by omega) (by omega),if_neg (by simp;omega),sb,if_neg (by simp)]
  exact⟨a,rfl,ha,by cases q<;>cases p<;>simpa[body] using h⟩
 | cons x suf ih =>
  intro pre q p was step la gap a i h1 hi h2 hw hs hp hq hn ha h
  have hlen:l.length=pre.length+(suf.length+1):=by rw[h1];simp
  have hx:=hc.ok x (by rw[h1];simp)
  have fx:=hF x (by rw[h1];simp)
  have hHx:=hH x (by rw[h1];simp)
  have hrl:=Z4d x.f1 (allI 0 l) (allI 1 l)
  have hru:=rows_u64 hx.1 fx (allI 0 l) (allI 1 l)
  have hup:=hc.up
  rw[h1] at hup
  have h2x:=h2.next x
  have hbkP:bks (allI 0 l) ((allI 0 l).map (tot x.f1.f6))=x.f1.f6:=bks_self iP.1 hx.1.pos.canon (fun y hy=>(allI_mem 0 y.f0 l).2 ⟨x,by rw[h1];simp,List.mem_map.2 ⟨y,hy,rfl⟩⟩)
  have hbkN:bks (allI 1 l) ((allI 1 l).map (tot x.f1.f7))=x.f1.f7:=bks_self iN.1 hx.1.neg.canon (fun y hy=>(allI_mem 1 y.f0 l).2 ⟨x,by rw[h1];simp,List.mem_map.2 ⟨y,hy,rfl⟩⟩)
  have hB1:=Zdq (Z80 iP.sm (by omega)) (by omega) (c:=(allI 0 l).map (tot x.f1.f6)) (by simp)
  have hB2:=Zdq (Z80 iN.sm (by omega)) (by omega) (c:=(allI 1 l).map (tot x.f1.f7)) (by simp)
  rw[hbkP] at hB1
  rw[hbkN] at hB2
  have hsum:i64.wrap (u64.wrap x.f1.f5)=x.f1.f5:=by
   have:=fx.sum.1;have:=fx.sum.2
   simp only[Z5p,Z66];omega
  have w2:i64.wrap ((2:Int)+((allI 0 l).length:Int))=((2+(allI 0 l).length:Nat):Int):=by rw[Zc (by omega) (by omega)];omega
  have fin:∀ (a1:Nat) (st:List Int) (gp:Int),st.length=2+(allI 0 l).length+(allI 1 l).length→a1≤8*b.length→(∀ y x',p=some y→some x=some x'→st=subR (Z1q x'.f1 (allI 0 l) (allI 1 l)) (Z1q y.f1 (allI 0 l) (allI 1 l))∧gp=x'.f0-y.f0)→(Z06 b).drop a1=body (allI 0 l) (allI 1 l) p (some x) suf++z →
    ∃ a':Nat,((at? (Z1q x.f1 (allI 0 l) (allI 1 l)) 0)>>=fun b3364=>(at? (Z1q x.f1 (allI 0 l) (allI 1 l)) 1)>>=fun b3367=>(chk (0≤(2:Int)∧(2:Int)≤(i64.wrap ((2:Int)+((allI 0 l).length:Int)))∧(i64.wrap ((2:Int)+((allI 0 l).length:Int)))≤((Z1q x.f1 (allI 0 l) (allI 1 l)).length:Int)))>>=fun _=>(Z1j.f (lay (allI 0 l)) (((Z1q x.f1 (allI 0 l) (allI 1 l)).drop (Int.toNat (2:Int))).take (Int.toNat (i64.wrap ((2:Int)+((allI 0 l).length:Int)))-Int.toNat (2:Int))))>>=fun t3377=>(chk (0≤(i64.wrap ((2:Int)+((allI 0 l).length:Int)))∧(i64.wrap ((2:Int)+((allI 0 l).length:Int)))≤((Z1q x.f1 (allI 0 l) (allI 1 l)).length:Int)∧((Z1q x.f1 (allI 0 l) (allI 1 l)).length:Int)≤((Z1q x.f1 (allI 0 l) (allI 1 l)).length:Int)))>>=fun _=>(Z1j.f (lay (allI 1 l)) (((Z1q x.f1 (allI 0 l) (allI 1 l)).drop (Int.toNat (i64.wrap ((2:Int)+((allI 0 l).length:Int))))).take (Int.toNat ((Z1q x.f1 (allI 0 l) (allI 1 l)).length:Int)-Int.toNat (i64.wrap ((2:Int)+((allI 0 l).length:Int))))))>>=fun t3380=>(Z3a.f (⟨H.f0,H.f1,H.f2,b3364,H.f4,i64.wrap (b3367),t3377,t3380⟩:Zk) t3377 t3380)>>=fun t3386=>(chk ((pre.length+[(⟨x.f0,(t3386.1)⟩:Za)].length)*104≤140737488355328))>>=fun _=>Zr.l0 b H (lay (allI 0 l)) (lay (allI 1 l)) t (allI 0 l) (allI 1 l) ((a1:Int),0,Z1q x.f1 (allI 0 l) (allI 1 l),st,x.f0,gp,pre++[(⟨x.f0,(t3386.1)⟩:Za)],i64.wrap (i+(1:Int))))=some (l,(a':Int),0)∧a'≤8*b.length∧(Z06 b).drop a'=z:=by
   intro a1 st gp hst ha1 hsg hd
   have A0:at? (Z1q x.f1 (allI 0 l) (allI 1 l)) 0=some x.f1.f3:=rfl
   have A1:at? (Z1q x.f1 (allI 0 l) (allI 1 l)) 1=some (u64.wrap x.f1.f5):=rfl
   rw[A0,sb,A1,sb,w2,chkB (by rw[hrl];omega),cut_p,hB1,sb,chkB (by rw[hrl];omega),cut_n,hB2,sb,hsum]
   rw[make_id hx.1 fx (g:=⟨H.f0,H.f1,H.f2,x.f1.f3,H.f4,x.f1.f5,x.f1.f6,x.f1.f7⟩) hHx.1 hHx.2.1 hHx.2.2 rfl rfl,sb,chkB (by simp;omega),Zc (n:=i+1) (by omega) (by omega)]
   exact ih (pre++[x]) p (some x) _ st x.f0 gp a1 (i+1) (by simp[h1]) (by simp;omega) h2x hrl hst (fun y hy=>by cases hy;exact⟨rfl,rfl⟩) hsg (fun hy=>by cases hy) ha1 hd
  rw[Zr.l0]
  dsimp only
  rw[ht,Zc (n:=1+((l.length:Int)-1)) (by omega) (by omega),if_pos (by simp;omega),err_eq,sb,sb,if_pos (by simp)]
  rcases h2 with ⟨rfl,rfl,rfl⟩ | ⟨y,rfl,rfl,rfl⟩ | ⟨P0,y,w,rfl,rfl,rfl⟩
  ·have hi0:i=0:=by simpa using hi
   subst hi0
   rw[body,List.append_assoc,List.append_assoc] at h
   have c:=Z46 hb (n:=x.f0.toNat) (m:=1099511627776) (by omega) (by omega) ha h
   have l1:=congrArg List.length h
   simp only[List.length_drop,Z0u,List.length_append] at l1
   rw[Int.toNat_of_nonneg hx.2.1] at c
   rw[if_pos (by simp),show Z9.f b (a:Int) 0 1099511627776=_ from c,sb,sb]
   dsimp only
   obtain⟨a1,e1,g1,g2⟩:=s1_0 hb H (lay (allI 0 l)) (lay (allI 1 l)) t (allI 0 l) (allI 1 l) (by omega) (by omega) la [] x.f0 step (body (allI 0 l) (allI 1 l) none (some x) suf++z) (Z1q x.f1 (allI 0 l) (allI 1 l)) [] was (a+(cnt2 x.f0.toNat).length) 0 (by simpa using hrl) (by omega) rfl hru (by omega) (by rw[← List.drop_drop,h,List.drop_left])
   rw[List.nil_append,List.nil_append] at e1
   rw[e1,sb]
   exact fin a1 step _ hs g1 (fun y x' hy=>by cases hy) g2
  ·have hi1:i=1:=by simpa using hi
   subst hi1
   obtain⟨rfl,rfl⟩:=hp y rfl
   have hy:=hc.ok y (by rw[h1];simp)
   have hyx:y.f0<x.f0:=(List.pairwise_append.1 hup).2.2 y (by simp) x (by simp)
   have hyl:=Z4d y.f1 (allI 0 l) (allI 1 l)
   rw[body,List.append_assoc,List.append_assoc] at h
   have c:=Z46 hb (n:=(x.f0-y.f0-1).toNat) (m:=1099511627776) (by omega) (by omega) ha h
   have l1:=congrArg List.length h
   simp only[List.length_drop,Z0u,List.length_append] at l1
   have e0:i64.wrap (i64.wrap (y.f0+1)+((x.f0-y.f0-1).toNat:Int))=x.f0:=by
    rw[Zc (n:=y.f0+1) (by omega) (by omega),Zc (by omega) (by omega)];omega
   rw[if_neg (by simp),if_pos (by simp),show Z9.f b (a:Int) 0 1099511627776=_ from c,sb]
   dsimp only
   rw[sb]
   dsimp only
   rw[sb]
   dsimp only
   rw[e0]
   obtain⟨a1,e1,g1,g2⟩:=s1_1 hb H (lay (allI 0 l)) (lay (allI 1 l)) t (allI 0 l) (allI 1 l) (by omega) (by omega) y.f0 [y] x.f0 (body (allI 0 l) (allI 1 l) (some y) (some x) suf++z) (Z1q x.f1 (allI 0 l) (allI 1 l)) [] (Z1q y.f1 (allI 0 l) (allI 1 l)) step [] (a+(cnt2 (x.f0-y.f0-1).toNat).length) 0 (by simpa using hrl) (by omega) (by omega) rfl rfl hru (by omega) (by rw[← List.drop_drop,h,List.drop_left])
   rw[List.nil_append,List.nil_append,List.nil_append,List.nil_append] at e1
   rw[e1,sb]
   dsimp only
   rw[Zc (n:=x.f0-y.f0) (by omega) (by omega)]
   exact fin a1 _ _ (by rw[Z8n (by omega)];exact hrl) g1 (fun y' x' hy hx=>by cases hy;cases hx;exact⟨rfl,rfl⟩) g2
  ·have hi2:2≤i:=by rw[hi];simp;omega
   obtain⟨rfl,rfl⟩:=hp w rfl
   obtain⟨rfl,rfl⟩:=hq y w rfl rfl
   have hw':=hc.ok w (by rw[h1];simp)
   have hy:=hc.ok y (by rw[h1];simp)
   have hwx:w.f0<x.f0:=(List.pairwise_append.1 hup).2.2 w (by simp) x (by simp)
   have hwl:=Z4d w.f1 (allI 0 l) (allI 1 l)
   have hyl:=Z4d y.f1 (allI 0 l) (allI 1 l)
   rw[body,List.append_assoc,List.append_assoc] at h
   have c:=Zco hb (x:=x.f0-2*w.f0+y.f0) (by omega) ha h
   have l1:=congrArg List.length h
   simp only[List.length_drop,Z0u,List.length_append] at l1
   have e0:i64.wrap (i64.wrap (w.f0+(w.f0-y.f0))+(x.f0-2*w.f0+y.f0))=x.f0:=by
    rw[Zc (n:=w.f0+(w.f0-y.f0)) (by omega) (by omega),Zc (by omega) (by omega)];omega
   rw[if_neg (by simp;omega),if_neg (by simp;omega),c,sb]
   dsimp only
   rw[sb]
   dsimp only
   rw[sb]
   dsimp only
   rw[e0]
   obtain⟨a1,e1,g1,g2⟩:=s1_2 hb H (lay (allI 0 l)) (lay (allI 1 l)) t (allI 0 l) (allI 1 l) (by omega) (by omega) w.f0 (P0++[y,w]) i x.f0 hi2 (body (allI 0 l) (allI 1 l) (some w) (some x) suf++z) (Z1q x.f1 (allI 0 l) (allI 1 l)) [] (Z1q w.f1 (allI 0 l) (allI 1 l)) (subR (Z1q w.f1 (allI 0 l) (allI 1 l)) (Z1q y.f1 (allI 0 l) (allI 1 l))) [] (a+(intB (x.f0-2*w.f0+y.f0)).length) 0 (by simpa using hrl) (by omega) (by omega) rfl rfl hru (by omega) (by rw[← List.drop_drop,h,List.drop_left])
   rw[List.nil_append,List.nil_append,List.nil_append,List.nil_append] at e1
   rw[e1,sb]
   dsimp only
   rw[Zc (n:=x.f0-w.f0) (by omega) (by omega)]
   exact fin a1 _ _ (by rw[Z8n (by omega)];exact hrl) g1 (fun y' x' hy hx=>by cases hy;cases hx;exact⟨rfl,rfl⟩) g2
end Go.Proofs.YtinhldbfifpakaaGreat.PvGL1
set_option linter.unusedVariables false
set_option linter.unusedSimpArgs false
namespace Go.Proofs.YtinhldbfifpakaaGreat.PvGL1
open Go Go.Pv Go.Pv.GS Go.IntKind
theorem end_l0 {b:List Int} (hb:Src b):∀ (f a:Nat),a+f=8*b.length→(Z06 b).drop a=List.replicate f false→∃ a':Int,Zv.l0 b (a:Int) 0=some (a',0):=by
 intro f
 have hl:=hb.len
 induction f with
 | zero =>
  intro a ha h
  unfold Zv.l0 Z0k.f
  rw[if_pos (by simp),sb,Zc (n:=(8:Int)*(b.length:Int)) (by omega) (by omega),Zc (by omega) (by omega),sb,if_neg (by simp;omega)]
  exact⟨_,rfl⟩
 | succ f ih =>
  intro a ha h
  have hx:(Z06 b)[a]? = some false:=by
   have:=congrArg (fun l=>l[0]?) h
   simpa[List.replicate_succ] using this
  have hn:(Z06 b).drop (a+1)=List.replicate f false:=by
   have:=congrArg List.tail h
   rw[List.tail_drop,List.replicate_succ,List.tail_cons] at this
   exact this
  unfold Zv.l0 Z0k.f
  rw[if_pos (by simp),sb,Zc (n:=(8:Int)*(b.length:Int)) (by omega) (by omega),Zc (by omega) (by omega),sb,if_pos (by simp;omega),Zcd hb hx,sb]
  dsimp only
  rw[if_neg (by simp),sb]
  exact ih (a+1) (by omega) hn
theorem end_ok {b:List Int} (hb:Src b) {a f:Nat} (hf:f<8) (ha:a≤8*b.length) (h:(Z06 b).drop a=List.replicate f false):∃ a':Int,Zv.f b (a:Int) 0=some (0,a',0):=by
 have hl:=hb.len
 have l1:=congrArg List.length h
 rw[List.length_drop,Z0u,List.length_replicate] at l1
 obtain⟨a',e⟩:=end_l0 hb f a (by omega) h
 unfold Zv.f Z0k.f
 rw[if_pos (by simp),sb,Zc (n:=(8:Int)*(b.length:Int)) (by omega) (by omega),Zc (by omega) (by omega),sb,if_neg (by simp;omega),sb,e,sb]
 exact⟨a',rfl⟩
theorem end_long {b:List Int} (hb:Src b) {a:Nat} (h:a+8≤8*b.length):Zv.f b (a:Int) 0=some (6,(a:Int),6):=by
 have hl:=hb.len
 unfold Zv.f Z0k.f
 rw[if_pos (by simp),sb,Zc (n:=(8:Int)*(b.length:Int)) (by omega) (by omega),Zc (by omega) (by omega),sb,if_pos (by simp;omega),rfail0,sb,sb,Zv.l0,if_neg (by simp),sb,if_neg (by simp),sb]
end Go.Proofs.YtinhldbfifpakaaGreat.PvGL1
set_option linter.unusedVariables false
set_option linter.unusedSimpArgs false
set_option maxRecDepth 10000
namespace Go.Proofs.YtinhldbfifpakaaGreat.PvGL1
open Go Go.Pv Go.Pv.GS Go.IntKind
theorem eqloop {α:Type} [DecidableEq α] (a b:List α) (hl:a.length=b.length) (ha:a.length<1000000000) (ne:α→α→Bool) (hne:∀ x y,ne x y = !decide (x=y)) (F:Int→Option (Bool ⊕ Unit))
  (hF:∀ i,F i=if(decide (i<(a.length:Int)))=true then((at? a i)>>=fun x=>(at? b i)>>=fun y=>if ne x y=true then(some (.inl false)) else F (i64.wrap (i+(1:Int)))) else(some (.inr ()))) :
  ∀ (sa pa sb' pb:List α) (i:Int),a=pa++sa→b=pb++sb'→pa.length=pb.length→i=(pa.length:Int)→F i=some (if sa=sb' then .inr () else .inl false):=by
 intro sa
 induction sa with
 | nil =>
  intro pa sb' pb i h1 h2 h3 hi
  have e:sb'=[]:=by
   have l1:=congrArg List.length h1
   have l2:=congrArg List.length h2
   simp only[List.length_append,List.length_nil] at l1 l2
   exact List.length_eq_zero_iff.1 (by omega)
  rw[hF,if_neg (by rw[h1];simp[hi]),e,if_pos rfl]
 | cons x sa ih =>
  intro pa sb' pb i h1 h2 h3 hi
  have l1:=congrArg List.length h1
  have l2:=congrArg List.length h2
  simp only[List.length_append,List.length_cons] at l1 l2
  cases sb' with
  | nil=>simp only[List.length_nil] at l2;omega
  | cons y sb' =>
   rw[hF,if_pos (by simp;omega),Z0a h1 hi,sb,Z0a h2 (by omega),sb,hne,Zc (by omega) (by omega)]
   by_cases c:x=y
   ·subst c
    rw[if_neg (by simp),ih (pa++[x]) sb' (pb++[x]) (i+1) (by simp[h1]) (by simp[h2]) (by simp[h3]) (by simp;omega)]
    by_cases c2:sa=sb'
    ·rw[if_pos c2,if_pos (by rw[c2])]
    ·rw[if_neg c2,if_neg (by simp[c2])]
   ·rw[if_pos (by simp[c]),if_neg (by simp[c])]
theorem bkt_ne (x y:Z1):(!((x.f0==y.f0)&&((x.f1==y.f1)&&true))) = !decide (x=y):=by
 obtain⟨a,b⟩:=x;obtain⟨c,d⟩:=y
 by_cases h1:a=c<;>by_cases h2:b=d<;>simp[h1,h2]
theorem rsame_eq (a b:List Z1) (ha:a.length<1000000000):Z3c.f a b=some (decide (a=b)):=by
 unfold Z3c.f
 by_cases hl:a.length=b.length
 ·have L:=eqloop a b hl ha (fun x y => !((x.f0==y.f0)&&((x.f1==y.f1)&&true))) bkt_ne (       Z3c.l0 a b) (fun i=>by rw[       Z3c.l0]) a [] b [] 0 rfl rfl rfl rfl
  rw[if_neg (by simp;omega),L,sb]
  by_cases c:a=b
  ·rw[if_pos c,decide_eq_true c]
  ·rw[if_neg c,decide_eq_false c]
 ·rw[if_pos (by simp;omega),decide_eq_false (fun h=>hl (by rw[h]))]
theorem rSame_eq (a b:Zk) (h6:a.f6.length<1000000000) (h7:a.f7.length<1000000000):Z5y.f a b=some (decide (a=b)):=by
 unfold Z5y.f
 rw[rsame_eq _ _ h6,rsame_eq _ _ h7]
 obtain⟨a0,a1,a2,a3,a4,a5,a6,a7⟩:=a
 obtain⟨b0,b1,b2,b3,b4,b5,b6,b7⟩:=b
 simp only[sb]
 by_cases c0:a0=b0
 case neg=>rw[if_neg (by simpa using c0),sb,decide_eq_false (by simp[c0])]
 by_cases c1:a1=b1
 case neg=>rw[if_pos (by simpa using c0),if_neg (by simpa using c1),sb,decide_eq_false (by simp[c1])]
 by_cases c2:a2=b2
 case neg=>rw[if_pos (by simpa using c0),if_pos (by simpa using c1),if_neg (by simpa using c2),sb,decide_eq_false (by simp[c2])]
 by_cases c3:a3=b3
 case neg=>rw[if_pos (by simpa using c0),if_pos (by simpa using c1),if_pos (by simpa using c2),if_neg (by simpa using c3),sb,decide_eq_false (by simp[c3])]
 by_cases c4:a4=b4
 case neg=>rw[if_pos (by simpa using c0),if_pos (by simpa using c1),if_pos (by simpa using c2),if_pos (by simpa using c3),if_neg (by simpa using c4),sb,decide_eq_false (by simp[c4])]
 by_cases c5:a5=b5
 case neg=>rw[if_pos (by simpa using c0),if_pos (by simpa using c1),if_pos (by simpa using c2),if_pos (by simpa using c3),if_pos (by simpa using c4),if_neg (by simpa using c5),sb,decide_eq_false (by simp[c5])]
 rw[if_pos (by simpa using c0),if_pos (by simpa using c1),if_pos (by simpa using c2),if_pos (by simpa using c3),if_pos (by simpa using c4),if_pos (by simpa using c5)]
 by_cases c6:a6=b6
 case neg=>rw[if_neg (by simpa using c6),sb,decide_eq_false (by simp[c6])]
 by_cases c7:a7=b7
 case neg=>rw[if_pos (by simpa using c6),decide_eq_false c7,sb,decide_eq_false (by simp[c7])]
 rw[if_pos (by simpa using c6),decide_eq_true c7,sb,decide_eq_true (by simp[c0,c1,c2,c3,c4,c5,c6,c7])]
theorem byte_ne (x y:Int):(x != y) = !decide (x=y):=by
 by_cases h:x=y<;>simp[h]
theorem eqbytes (a b:List Int) (ha:a.length<1000000000):Z10.f a b=some (decide (a=b)):=by
 unfold Z10.f
 by_cases hl:a.length=b.length
 ·have L:=eqloop a b hl ha (fun x y=>x != y) byte_ne (                Z10.l0 a b) (fun i=>by rw[                Z10.l0]) a [] b [] 0 rfl rfl rfl rfl
  rw[if_neg (by simp;omega),L,sb]
  by_cases c:a=b
  ·rw[if_pos c,decide_eq_true c]
  ·rw[if_neg c,decide_eq_false c]
 ·rw[if_pos (by simp;omega),decide_eq_false (fun h=>hl (by rw[h]))]
end Go.Proofs.YtinhldbfifpakaaGreat.PvGL1
set_option linter.unusedVariables false
set_option linter.unusedSimpArgs false
set_option maxRecDepth 10000
namespace Go.Proofs.YtinhldbfifpakaaGreat.PvGL1
open Go Go.Pv Go.Pv.GS Go.IntKind
variable {b:List Int}
structure HOk (h:Zk):Prop where
 fits:Fits h
 pos:h.f6.length≤512
 neg:h.f7.length≤512
theorem HOk.zero:HOk (⟨0,0,0,0,0,0,[],[]⟩:Zk):=⟨⟨by decide,by decide,by decide,by decide,by decide,by decide,by simp,by simp⟩,by simp,by simp⟩
theorem get_fwd (hb:Src b) {a k:Nat} {s z:List Bool} (hk:k≤64) (hs:s.length=k) (ha:a≤8*b.length) (h:(Z06 b).drop a=s++z):Zl.f b (a:Int) 0 (k:Int)=some (((val s:Nat):Int),((a+k:Nat):Int),0):=by
 have l1:=congrArg List.length h
 simp only[List.length_drop,Z0u,List.length_append] at l1
 rcases get_spec hb hk ha with ⟨_,h2⟩ | ⟨h1,_⟩
 ·rw[h2,h,List.take_left' hs]
 ·omega
theorem dec_fwd (hb:Src b) {l:List Za} (hc:COk l) (hne:l≠[]) (hk:∀ s∈l,HOk s.f1) (h0:Z1h.f l=some 0) (z:List Bool) (h:Z06 b=Z6d l++z) :
  (8≤z.length→Z3m.f b=some ([],6))∧(∀ f,f<8→z=List.replicate f false→Z3m.f b=some (l,0)):=by
 have hF:∀ s∈l,Fits s.f1:=fun s hs=>(hk s hs).fits
 obtain⟨iP,iN⟩:=hc.ids hF
 have lP:=hc.pos
 have lN:=hc.neg
 have h32:=hc.len
 have hbl:=hb.len
 obtain⟨s,r,hl⟩:∃ s r,l=s::r:=by
  cases l with
  | nil=>exact absurd rfl hne
  | cons s r=>exact⟨s,r,rfl⟩
 have hs:=hc.ok s (by rw[hl];simp)
 have fs:=hF s (by rw[hl];simp)
 have hsch:=hs.1.schema
 have hs1:=hsch.1
 have hs2:=hsch.2
 have hz:=hs.1.zero
 have hkd:=hs.1.kind
 have hcb:Z6d l=[s.f1.f0==1]++(nb (s.f1.f1+4).toNat 4++(intB s.f1.f2++(lyB (lay (allI 0 l))++(lyB (lay (allI 1 l))++(cnt2 (l.length-1)++body (allI 0 l) (allI 1 l) none none l))))):=by rw[hl];rfl
 have d0:Z06 b=[s.f1.f0==1]++(nb (s.f1.f1+4).toNat 4++(intB s.f1.f2++(lyB (lay (allI 0 l))++(lyB (lay (allI 1 l))++(cnt2 (l.length-1)++(body (allI 0 l) (allI 1 l) none none l++z)))))):=by
  rw[h,hcb];simp
 have lb:=congrArg List.length d0
 simp only[Z0u,List.length_append,Z2x,List.length_singleton] at lb
 have x0:(Z06 b)[0]? = some (s.f1.f0==1):=by rw[d0];rfl
 have E1:=Zcd hb x0
 have d1:(Z06 b).drop 1=nb (s.f1.f1+4).toNat 4++(intB s.f1.f2++(lyB (lay (allI 0 l))++(lyB (lay (allI 1 l))++(cnt2 (l.length-1)++(body (allI 0 l) (allI 1 l) none none l++z))))):=by rw[d0];rfl
 have E2:=get_fwd hb (k:=4) (by omega) (Z2x _ _) (by omega) d1
 rw[Zdb,Nat.mod_eq_of_lt (by omega)] at E2
 have d2:(Z06 b).drop (1+4)=intB s.f1.f2++(lyB (lay (allI 0 l))++(lyB (lay (allI 1 l))++(cnt2 (l.length-1)++(body (allI 0 l) (allI 1 l) none none l++z)))):=by rw[← List.drop_drop,d1,List.drop_left' (Z2x _ _)]
 have E3:=Zco hb (x:=s.f1.f2) (by omega) (by omega) d2
 have d3:(Z06 b).drop (1+4+(intB s.f1.f2).length)=lyB (lay (allI 0 l))++(lyB (lay (allI 1 l))++(cnt2 (l.length-1)++(body (allI 0 l) (allI 1 l) none none l++z))):=by rw[← List.drop_drop,d2,List.drop_left]
 obtain⟨a4,E4,g4,d4⟩:=tk_fwd hb iP lP (by omega) _ d3
 obtain⟨a5,E5,g5,d5⟩:=tk_fwd hb iN lN g4 _ d4
 have E6:=Z46 hb (n:=l.length-1) (m:=31) (by omega) (by omega) g5 d5
 have l5:=congrArg List.length d5
 simp only[List.length_drop,Z0u,List.length_append] at l5
 have d6:(Z06 b).drop (a5+(cnt2 (l.length-1)).length)=body (allI 0 l) (allI 1 l) none none l++z:=by rw[← List.drop_drop,d5,List.drop_left]
 have hll:1≤l.length:=by rw[hl];simp
 have hK:((if(s.f1.f0==1)=true then(some 1) else(some 0)):Option (Int))=some s.f1.f0:=by
  rcases hkd with e | e<;>rw[e]<;>rfl
 have hsc:i64.wrap ((i64.wrap (((s.f1.f1+4).toNat:Nat):Int))+(-4))=s.f1.f1:=by
  rw[Zc (n:=(((s.f1.f1+4).toNat:Nat):Int)) (by omega) (by omega),Zc (by omega) (by omega)];omega
 have hat:((if(decide (s.f1.f2<(-524288)))=true then(some true) else(some (decide (s.f1.f2>(262144:Int))))):Option (Bool))=some false:=by
  rw[if_neg (by simp;omega)];simp;omega
 obtain⟨a7,E7,g7,d7⟩:=smp_l0 hb hc hF (⟨s.f1.f0,s.f1.f1,s.f1.f2,0,0,0,[],[]⟩:Zk) (fun x hx=>hc.head s (by rw[hl];simp) x hx) (((l.length-1:Nat):Int),((a5+(cnt2 (l.length-1)).length:Nat):Int),0) (by dsimp only;omega) z l [] none none (List.replicate (Int.toNat ((2+(allI 0 l).length+(allI 1 l).length:Nat):Int)) 0) (List.replicate (Int.toNat ((2+(allI 0 l).length+(allI 1 l).length:Nat):Int)) 0) 0 0 (a5+(cnt2 (l.length-1)).length) 0 rfl rfl (.inl ⟨rfl,rfl,rfl⟩) (by rw[List.length_replicate,Int.toNat_natCast]) (by rw[List.length_replicate,Int.toNat_natCast]) (fun x hx=>by cases hx) (fun y x hy=>by cases hy) (fun _=>rfl) (by omega) d6
 have ES:Zr.f b (a5:Int) 0 (⟨s.f1.f0,s.f1.f1,s.f1.f2,0,0,0,[],[]⟩:Zk) (lay (allI 0 l)) (lay (allI 1 l))=some (l,(a7:Int),0):=by
  unfold Zr.f
  rw[show Z9.f b (a5:Int) 0 31=_ from E6,sb,Z80 iP.sm (by omega),sb,Z80 iN.sm (by omega),sb,Z9b (by omega) (by omega),chkB (by omega)]
  dsimp only
  rw[E7,sb]
 have l7:=congrArg List.length d7
 rw[List.length_drop,Z0u] at l7
 have pre:Z3m.f b=((Zv.f b (a7:Int) 0)>>=fun t3478=>if(t3478.1 != (0:Int))=true then(some ([],6)) else((Zz.f l)>>=fun t3483=>((if(t3483.2 != (0:Int))=true then(some true) else((Z10.f t3483.1 b)>>=fun t3521=>some (!t3521))):Option (Bool))>>=fun x3523=>if x3523=true then(some ([],6)) else(some (l,0)))):=by
  unfold Z3m.f Z4z.f
  rw[sb,show Z05.f b 0 0=_ from E1,sb]
  dsimp only
  rw[hK,sb,show Zl.f b ((0+1:Nat):Int) 0 4=_ from E2,sb]
  dsimp only
  rw[E3,sb]
  dsimp only
  rw[hat,sb,if_neg (by simp),E4,sb]
  dsimp only
  rw[E5,sb]
  dsimp only
  rw[hsc,ES,sb]
 constructor
 ·intro h8
  rw[pre,end_long hb (by omega),sb,if_pos (by simp)]
 ·intro f hf hzf
  rw[hzf] at d7
  obtain⟨a',E⟩:=end_ok hb hf g7 d7
  obtain⟨y,f',EY,hY⟩:=enc_eq hc hne hF h0
  have hY2:Laid b f (Z6d l):=⟨hb.byte,hf,by rw[h,hzf]⟩
  have:=hY.unique hY2
  subst this
  rw[pre,E,sb,if_neg (by simp),EY,sb,if_neg (by simp),eqbytes y y (by omega),sb,sb,if_neg (by simp)]
end Go.Proofs.YtinhldbfifpakaaGreat.PvGL1
set_option linter.unusedVariables false
set_option linter.unusedSimpArgs false
set_option maxRecDepth 10000
namespace Go.Proofs.YtinhldbfifpakaaGreat.PvGL1
open Go Go.Pv Go.Pv.GS Go.IntKind
def by8 (l:List Int):List Bool:=l.flatMap fun n=>nb n.toNat 8
theorem by8_len (l:List Int):(by8 l).length=8*l.length:=by
 induction l with
 | nil=>rfl
 | cons x l ih=>simp only[by8,List.flatMap_cons,List.length_append,Z2x,List.length_cons] at ih ⊢;omega
def Z5n (t:ByteArray):List Bool:=cnt2 t.size++by8 (Z4s t)
theorem Z52 (t:ByteArray):(Z4s t).length=t.size:=by simp only[Z4s,List.length_map,Array.length_toList];rfl
theorem Z9n (t:ByteArray):∀ n∈Z4s t,0≤n∧n<256:=by
 intro n hn
 obtain⟨c,_,rfl⟩:=List.mem_map.1 hn
 have:=c.toNat_lt
 omega
theorem bytesL_bt {t:ByteArray} {i:Nat} {x:Int} (h:(Z4s t)[i]? = some x):bt t (i:Int)=x:=by
 unfold Z4s at h
 rw[List.getElem?_map,Array.getElem?_toList] at h
 unfold bt
 rw[Int.toNat_natCast]
 cases e:t.data[i]? with
 | none=>rw[e] at h;simp at h
 | some c=>rw[e] at h;simpa using h
theorem strOf_bytesL (t:ByteArray):Z6k (Z4s t)=t:=by
 rw[strOf_eq]
 have:toB (Z4s t)=t.data.toList:=by
  unfold toB Z4s
  rw[List.map_map]
  conv=>rhs;rw[← List.map_id t.data.toList]
  apply List.map_congr_left
  intro c _
  simp
 rw[this]
theorem Z6f {x:List Int} (h:∀ n∈x,0≤n∧n<256):Z4s (Z6k x)=x:=by
 rw[strOf_eq]
 unfold Z4s toB
 simp only[List.map_map]
 conv=>rhs;rw[← List.map_id x]
 apply List.map_congr_left
 intro n hn
 have:=h n hn
 simp;omega
theorem text_l0 (t:ByteArray) (ht:t.size≤2000000):∀ (suf pre:List Int) (b:List Int) (f:Nat) (s:List Bool) (i:Int),Z4s t=pre++suf→i=(pre.length:Int)→s.length+8*suf.length<800000000→Laid b f s →
  ∃ (b':List Int) (f':Nat),Z0z.l0 t b (f:Int) i=some (b',(f':Int))∧Laid b' f' (s++by8 suf):=by
 intro suf
 induction suf with
 | nil =>
  intro pre b f s i h1 hi _ hL
  have:=Z52 t
  rw[h1] at this
  refine⟨b,f,?_,by simpa[by8] using hL⟩
  rw[Z0z.l0,if_neg (by simp at this;simp;omega)]
 | cons x suf ih =>
  intro pre b f s i h1 hi hs hL
  have hlen:=Z52 t
  rw[h1] at hlen
  simp only[List.length_append,List.length_cons] at hlen hs
  have hx:=Z9n t x (by rw[h1];simp)
  have hb:bt t i=x:=by rw[hi];exact bytesL_bt (by rw[h1];simp)
  obtain⟨b1,f1,e1,h2⟩:=wput hL (by omega) (n:=x) (by omega) (by omega) (k:=8) (by omega)
  rw[Z0z.l0,if_pos (by simp;omega),chkB (by omega),hb,Z3f (by omega) (by omega),show(8:Int)=((8:Nat):Int) from rfl,e1,sb,Zc (n:=i+1) (by omega) (by omega)]
  obtain⟨b2,f2,e2,h3⟩:=ih (pre++[x]) b1 f1 _ (i+1) (by simp[h1]) (by simp;omega) (by rw[List.length_append,Z2x];omega) h2
  refine⟨b2,f2,e2,?_⟩
  simpa[by8] using h3
theorem text_eq {b:List Int} {f:Nat} {s:List Bool} (h:Laid b f s) (t:ByteArray) (ht:t.size≤2000000) (hl:s.length<700000000) :
  ∃ (b':List Int) (f':Nat),Z0z.f b (f:Int) t=some (b',(f':Int))∧Laid b' f' (s++Z5n t):=by
 unfold Z0z.f
 obtain⟨b1,f1,e1,h1⟩:=Z67 h (by omega) (n:=(t.size:Int)) (by omega) (by omega)
 rw[Z3f (by omega) (by omega),e1,sb]
 rw[Int.toNat_natCast] at h1
 have:=Z14 t.size
 have hb:=Z52 t
 obtain⟨b2,f2,e2,h2⟩:=text_l0 t ht (Z4s t) [] b1 f1 _ 0 rfl rfl (by rw[List.length_append];omega) h1
 rw[e2,sb]
 exact⟨b2,f2,rfl,by rw[Z5n,← List.append_assoc];exact h2⟩
theorem u8w {v:Int} (h0:0≤v) (h1:v<256):u8.wrap v=v:=by
 simp only[IntKind.wrap,IntKind.signed,IntKind.bits];simp;omega
theorem rep_set {n i:Nat} (h:i<n) (p:List Int) (hp:p.length=i) (y:Int):(p++List.replicate (n-i) (0:Int)).set (Int.toNat (i:Int)) y=(p++[y])++List.replicate (n-(i+1)) (0:Int):=by
 rw[show n-i=(n-(i+1))+1 from by omega,List.replicate_succ]
 exact(Z8c p 0 y _ (by omega)).trans (by simp)
variable {b:List Int}
theorem tk_fwd_l0 (hb:Src b) (t:Int×Int×Int) (n:Nat) (hn:n≤1048576) (ht:t.1=(n:Int)) (z:List Bool):∀ (suf pre:List Int) (a:Nat) (i:Int),pre.length+suf.length=n→i=(pre.length:Int)→(∀ x∈suf,0≤x∧x<256)→a≤8*b.length→(Z06 b).drop a=by8 suf++z →
  Z0q.l0 b t (a:Int) 0 (pre++List.replicate (n-pre.length) (0:Int)) i=some (pre++suf,((a+8*suf.length:Nat):Int),0):=by
 intro suf
 induction suf with
 | nil =>
  intro pre a i h1 hi _ _ _
  simp only[List.length_nil,Nat.add_zero] at h1
  rw[Z0q.l0,if_neg (by rw[ht];simp;omega),show n-pre.length=0 from by omega]
  simp
 | cons x suf ih =>
  intro pre a i h1 hi hx ha hd
  simp only[List.length_cons] at h1
  have hx0:=hx x (by simp)
  have hd2:(Z06 b).drop a=nb x.toNat 8++(by8 suf++z):=by rw[hd];simp[by8]
  have hget:=get_fwd hb (k:=8) (by omega) (Z2x x.toNat 8) ha hd2
  rw[Zdb,Nat.mod_eq_of_lt (by omega)] at hget
  have l1:=congrArg List.length hd2
  simp only[List.length_drop,Z0u,List.length_append,Z2x] at l1
  have hd3:(Z06 b).drop (a+8)=by8 suf++z:=by
   rw[← List.drop_drop,hd2,List.drop_left' (Z2x ..)]
  rw[Z0q.l0,if_pos (by rw[ht];simp;omega),show(8:Int)=((8:Nat):Int) from rfl,hget,sb]
  rw[show at? (pre++List.replicate (n-pre.length) (0:Int)) i=some 0 from by
   rw[show n-pre.length=(n-(pre.length+1))+1 from by omega,List.replicate_succ];exact Z6i pre 0 _ hi,sb]
  dsimp only
  rw[hi,rep_set (by omega) pre rfl,Zc (n:=(pre.length:Int)+1) (by omega) (by omega)]
  have hw:u8.wrap ((x.toNat:Nat):Int)=x:=by rw[show((x.toNat:Nat):Int)=x from by omega];exact u8w (by omega) (by omega)
  rw[hw]
  have:=ih (pre++[x]) (a+8) ((pre.length:Int)+1) (by simp;omega) (by simp) (fun y hy=>hx y (by simp[hy])) (by omega) hd3
  simp only[List.length_append,List.length_singleton] at this
  rw[this]
  simp only[List.append_assoc,List.singleton_append,List.length_cons]
  congr 4
  omega
theorem left_ok (a e:Int):Z0k.f b a e=some ():=rfl
theorem Zc3 (hb:Src b) {t:ByteArray} (ht:t.size≤1048576) {a:Nat} {z:List Bool} (ha:a≤8*b.length) (h:(Z06 b).drop a=Z5n t++z) :
  Z0q.f b (a:Int) 0=some (t,((a+(Z5n t).length:Nat):Int),0):=by
 have hbl:=Z52 t
 have h1:(Z06 b).drop a=cnt2 t.size++(by8 (Z4s t)++z):=by rw[h,Z5n,List.append_assoc]
 have hlen:=congrArg List.length h1
 simp only[List.length_drop,Z0u,List.length_append,by8_len] at hlen
 have h2:(Z06 b).drop (a+(cnt2 t.size).length)=by8 (Z4s t)++z:=by rw[← List.drop_drop,h1,List.drop_left' rfl]
 have hB:=hb.len
 unfold Z0q.f
 rw[show(1048576:Int)=((1048576:Nat):Int) from rfl,Z46 hb ht (by omega) ha h1,sb]
 dsimp only
 rw[left_ok,sb,Zc (n:=8*(b.length:Int)) (by omega) (by omega),Zc (n:=8*(b.length:Int)-_) (by omega) (by omega)]
 have hdiv:(8*(b.length:Int)-((a+(cnt2 t.size).length:Nat):Int)).tdiv 8=(((8*b.length-(a+(cnt2 t.size).length)) / 8:Nat):Int):=by
  rw[show 8*(b.length:Int)-((a+(cnt2 t.size).length:Nat):Int)=((8*b.length-(a+(cnt2 t.size).length):Nat):Int) from by omega]
  exact(Int.ofNat_tdiv _ 8).symm
 rw[hdiv,Zc (by omega) (by omega),if_neg (by simp;omega),chkB (by omega),Int.toNat_natCast]
 have:=tk_fwd_l0 hb ((t.size:Int),((a+(cnt2 t.size).length:Nat):Int),0) t.size ht rfl z (Z4s t) [] (a+(cnt2 t.size).length) 0 (by simpa using hbl) rfl (Z9n t) (by omega) h2
 simp only[List.nil_append,List.length_nil,Nat.sub_zero] at this
 rw[this,sb]
 dsimp only
 rw[strOf_bytesL]
 congr 4
 rw[Z5n,List.length_append,by8_len]
 omega
end Go.Proofs.YtinhldbfifpakaaGreat.PvGL1
set_option linter.unusedVariables false
set_option linter.unusedSimpArgs false
set_option maxRecDepth 100000
namespace Go.Proofs.YtinhldbfifpakaaGreat.PvGL1
open Go Go.Pv Go.Pv.GS Go.IntKind
theorem laid_src {x:List Int} {f:Nat} {l:List Za} (h:Laid x f (Z6d l)) (hc:COk l) (hk:∀ s∈l,HOk s.f1):Src x∧x.length≤400000:=by
 have h1:=h.len
 have h2:=h.lt
 have h3:=Zb5 hc (fun s hs=>(hk s hs).fits)
 exact⟨⟨h.byte,by omega⟩,by omega⟩
end Go.Proofs.YtinhldbfifpakaaGreat.PvGL1
