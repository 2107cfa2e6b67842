import Derived.Test.YtinhldbfifpakaaGreatPxEntryApart17
set_option linter.unusedVariables false
set_option linter.unusedSimpArgs false
namespace Go.Proofs.YtinhldbfifpakaaGreat.PvGL
open Go Go.Pv Go.Pv.GS Go.IntKind
abbrev Z4g (r:Z1):Prop:=0≤r.f0∧r.f0≤r.f1∧r.f1≤1099511627776
def HasL (l:List Z1) (t:Int):Prop:=∃ r∈l,Z4g r∧r.f0≤t∧t≤r.f1
structure Z5q (l:List Z1):Prop where
 right:∀ r∈l,Z4g r
 gap:l.Pairwise (fun a b=>a.f1+1<b.f0)
theorem hasL_nil (t:Int):¬ HasL [] t:=by rintro⟨r,h,_⟩;simp at h
theorem Z9d (r:Z1) (l:List Z1) (t:Int):HasL (r::l) t↔(Z4g r∧r.f0≤t∧t≤r.f1)∨HasL l t:=by
 unfold HasL;simp
theorem Z78 (a b:List Z1) (t:Int):HasL (a++b) t↔HasL a t∨HasL b t:=by
 induction a with
 | nil=>simp[hasL_nil]
 | cons x a ih=>rw[List.cons_append,Z9d,Z9d,ih,or_assoc]
theorem hasL_perm {a b:List Z1} (h:a.Perm b) (t:Int):HasL a t↔HasL b t:=by
 unfold HasL
 constructor
 ·rintro⟨r,hr,x⟩;exact⟨r,h.mem_iff.1 hr,x⟩
 ·rintro⟨r,hr,x⟩;exact⟨r,h.mem_iff.2 hr,x⟩
theorem hasL_filter (l:List Z1) (t:Int) (p:Z1→Bool) (hp:∀ r,Z4g r→p r=true):HasL (l.filter p) t↔HasL l t:=by
 unfold HasL
 constructor
 ·rintro⟨r,hr,x⟩;exact⟨r,(List.mem_filter.1 hr).1,x⟩
 ·rintro⟨r,hr,x⟩;exact⟨r,List.mem_filter.2 ⟨hr,hp r x.1⟩,x⟩
theorem Z5q.nil:Z5q []:=⟨by simp,List.Pairwise.nil⟩
theorem Z5q.tail {x:Z1} {l:List Z1} (h:Z5q (x::l)):Z5q l:=⟨fun r hr=>h.right r (by simp[hr]),(List.pairwise_cons.1 h.gap).2⟩
theorem Z5q.head {x:Z1} {l:List Z1} (h:Z5q (x::l)):Z4g x:=h.right x (by simp)
theorem apart_concat {l:List Z1} {x:Z1} (h:Z5q (l++[x])):Z5q l∧Z4g x∧∀ r∈l,r.f1+1<x.f0:=by
 have g:=List.pairwise_append.1 h.gap
 exact⟨⟨fun r hr=>h.right r (by simp[hr]),g.1⟩,h.right x (by simp),fun r hr=>g.2.2 r hr x (by simp)⟩
theorem Za5 {l:List Z1} {x:Z1} (h:Z5q l) (hx:Z4g x) (hg:∀ r∈l,r.f1+1<x.f0):Z5q (l++[x]) :=
 ⟨fun r hr => by rcases List.mem_append.1 hr with hr | hr; exact h.right r hr; simp at hr; rw [hr]; exact hx,
  List.pairwise_append.2 ⟨h.gap,List.pairwise_singleton _ _,fun a ha b hb=>by simp at hb;rw[hb];exact hg a ha⟩⟩
def rLt (a b:Z1):Bool:=decide (a.f0<b.f0)||(decide (a.f0=b.f0)&&decide (a.f1<b.f1))
theorem rLt_swo:SWO rLt:=⟨fun a b h=>by simp[rLt] at *;omega,fun a b c h1 h2=>by simp[rLt] at *;omega⟩
end Go.Proofs.YtinhldbfifpakaaGreat.PvGL
set_option linter.unusedVariables false
set_option linter.unusedSimpArgs false
namespace Go.Proofs.YtinhldbfifpakaaGreat.PvGL
open Go Go.Pv Go.Pv.GS Go.IntKind
theorem Zcb (a b:Int):Z1z.f a b=some (if a<b then -1 else if a>b then 1 else 0):=by
 unfold Z1z.f Z2v.f
 by_cases h1:a<b
 ·simp[h1]
 ·by_cases h2:b<a
  ·simp[h1,h2]
  ·simp[h1,h2]
theorem or2 (a b:Int):Z2f.f [a,b]=some (if a≠0 then a else b):=by
 have w1:i64.wrap ((0:Int)+1)=1:=by decide
 have w2:i64.wrap ((1:Int)+1)=2:=by decide
 unfold Z2f.f
 rw[Z2f.l0,if_pos (by simp),show at? [a,b] 0=some a from rfl,sb]
 by_cases ha:a=0
 ·subst ha
  rw[if_neg (by simp),w1,Z2f.l0,if_pos (by simp),show at? [0,b] 1=some b from rfl,sb]
  by_cases hb:b=0
  ·subst hb
   rw[if_neg (by simp),w2,Z2f.l0,if_neg (by simp)];rfl
  ·rw[if_pos (by simpa using hb)];simp[hb]
 ·rw[if_pos (by simpa using ha)];simp[ha]
theorem rCmp:Cmp Z0u.f rLt:=fun a b=>by
 refine⟨_,by unfold Z0u.f;rw[Zcb,sb,Zcb,sb,or2,sb],?_⟩
 simp only[rLt]
 by_cases h1:a.f0<b.f0
 ·simp[h1]
 ·by_cases h2:b.f0<a.f0
  ·have h3:¬ a.f0=b.f0:=by omega
   simp[h1,h2,h3]
  ·have h3:a.f0=b.f0:=by omega
   by_cases h4:a.f1<b.f1
   ·simp[h1,h2,h3,h4]
   ·by_cases h5:b.f1<a.f1<;>simp[h1,h2,h3,h4,h5]
theorem t_right_eq (r:Z1):Z2s.f r=some (decide (Z4g r)):=by
 unfold Z2s.f
 by_cases h1:0≤r.f0
 ·by_cases h2:r.f0≤r.f1<;>simp[h1,h2,Z4g]
 ·simp[h1,Z4g]
theorem bad_eq (r:Z1):Z3y.f r=some (!decide (Z4g r)):=by
 unfold Z3y.f;rw[t_right_eq,sb]
theorem clone_r (l:List Z1) (h:l.length<1000000000):Z1b.f l=some l:=by
 unfold Z1b.f;rw[chkB (by simp;omega)]
theorem del_inst:Z07.f=deleteF.f Z3y.f ⟨0,0⟩:=by kernel_rfl
structure OfI (pre out:List Z1):Prop where
 apart:Z5q out
 has:∀ t,HasL out t↔HasL pre t
 seen:∀ o∈out,∃ p∈pre,p.f0=o.f0
 len:out.length≤pre.length
theorem tof_l0 (l:List Z1) (hl:l.length<1000000000) (hR:∀ r∈l,Z4g r) (hs:l.Pairwise (fun a b=>rLt b a=false)):∀ (suf pre out:List Z1) (i:Int),l=pre++suf→i=(pre.length:Int)→OfI pre out →
  ∃ out',Z3n.l0 l out i=some out'∧OfI l out':=by
 intro suf
 induction suf with
 | nil =>
  intro pre out i h1 hi hI
  rw[List.append_nil] at h1
  subst h1
  rw[Z3n.l0,if_neg (by simp[hi])]
  exact⟨out,rfl,hI⟩
 | cons b suf ih =>
  intro pre out i h1 hi hI
  have hb:=hR b (by rw[h1];simp)
  have hlen:l.length=pre.length+(suf.length+1):=by rw[h1];simp
  have holen:out.length≤pre.length:=hI.len
  have hle:∀ p∈pre,p.f0≤b.f0:=fun p hp=>by
   rw[h1] at hs
   have:=(List.pairwise_append.1 hs).2.2 p hp b (by simp)
   simp[rLt] at this;omega
  have e1:l=(pre++[b])++suf:=by simp[h1]
  have e2:i+1=((pre++[b]).length:Int):=by simp[hi]
  rw[Z3n.l0,if_pos (by rw[h1];simp[hi];omega),Z1q h1 hi,sb,Zf (n:=i+1) (by omega) (by omega)]
  have hroom:(out.length+[b].length)*16≤140737488355328:=by simp;omega
  have happ:∀ (hlt:∀ o∈out,o.f1+1<b.f0),OfI (pre++[b]) (out++[b]):=fun hlt =>
   ⟨Za5 hI.apart hb hlt,fun t=>by rw[Z78,Z78,hI.has],fun o ho=>by
    rcases List.mem_append.1 ho with ho | ho
    ·obtain⟨p,hp,e⟩:=hI.seen o ho;exact⟨p,by simp[hp],e⟩
    ·simp at ho;subst ho;exact⟨o,by simp,rfl⟩,by simp;omega⟩
  rcases List.eq_nil_or_concat out with rfl | ⟨o',o,rfl⟩
  ·rw[if_neg (by simp),sb,if_neg (by simp),chkB hroom,sb]
   exact ih (pre++[b]) _ (i+1) e1 e2 (happ (by simp))
  simp only[List.concat_eq_append] at *
  have ho':o'.length<1000000000000:=by simp at holen;omega
  obtain⟨ha',hox,hog⟩:=apart_concat hI.apart
  rw[if_pos (by simp),snoc_at _ _ ho',sb,sb,Zf (n:=o.f1+1) (by omega) (by omega)]
  by_cases hc:b.f0≤o.f1+1
  ·rw[if_pos (by simpa using hc),sb,snoc_set _ _ _ ho',sb]
   obtain⟨p,hp,hpo⟩:=hI.seen o (by simp)
   have hob:o.f0≤b.f0:=hpo ▸ hle p hp
   refine ih (pre++[b]) _ (i+1) e1 e2 ⟨Za5 ha' ?_ ?_,fun t => ?_,fun q hq => ?_,by simp at holen ⊢;omega⟩
   ·show 0≤o.f0∧o.f0≤_∧_≤_
    split<;>(dsimp only;omega)
   ·intro r hr;exact hog r hr
   ·have:=hI.has t
    rw[Z78,Z9d] at this ⊢
    rw[Z78,Z9d,← this]
    have n1:¬ HasL [] t:=hasL_nil t
    by_cases q:HasL o' t
    ·simp[q]
    ·simp only[q,n1,or_false,false_or,Z4g   ] at *
     split<;>omega
   ·rcases List.mem_append.1 hq with hq | hq
    ·obtain⟨p,hp,e⟩:=hI.seen q (by simp[hq]);exact⟨p,by simp[hp],e⟩
    ·simp at hq;subst hq;exact⟨p,by simp[hp],hpo⟩
  ·rw[if_neg (by simpa using hc),chkB hroom,sb]
   exact ih (pre++[b]) _ (i+1) e1 e2 (happ (fun r hr=>by
    rcases List.mem_append.1 hr with hr | hr
    ·have:=hog r hr;omega
    ·simp at hr;subst hr;omega))
theorem of_spec (l:List Z1) (hl:l.length<1000000000):∃ r,Z3n.f l=some ⟨r⟩∧Z5q r∧(∀ t,HasL r t↔HasL l t)∧r.length≤l.length:=by
 unfold Z3n.f
 rw[clone_r l hl,sb,del_inst,deleteF_eq bad_eq _ _ (by omega),sb,tsort_inst]
 have hf:(l.filter fun x => !(!decide (Z4g x))).length≤l.length:=List.length_filter_le ..
 obtain⟨s,e,hp,hs⟩:=sortF rCmp rLt_swo (l.filter fun x => !(!decide (Z4g x))) (by omega)
 rw[e,sb]
 have hsl:=hp.length_eq
 obtain⟨out,e2,hI⟩:=tof_l0 s (by omega) (fun r hr=>by
  have:=(List.mem_filter.1 (hp.mem_iff.1 hr)).2
  simpa using this) hs s [] [] 0 rfl rfl ⟨Z5q.nil,fun t=>Iff.rfl,by simp,by simp⟩
 rw[e2,sb]
 exact⟨out,rfl,hI.apart,fun t=>by rw[hI.has,hasL_perm hp,hasL_filter _ _ _ (fun r hr=>by simp[hr])],by have:=hI.len;omega⟩
theorem ranges_eq (s:Z2x) (h:s.f0.length<1000000000):Z2r.f s=some s.f0:=by
 unfold Z2r.f;rw[clone_r _ h,sb]
end Go.Proofs.YtinhldbfifpakaaGreat.PvGL
set_option linter.unusedVariables false
set_option linter.unusedSimpArgs false
namespace Go.Proofs.YtinhldbfifpakaaGreat.PvGL
open Go Go.Pv Go.Pv.GS Go.IntKind
def layB:Int→List Z1→List Bool
 | _,[]=>[]
 | last,r::l=>cnt2 (r.f0-last).toNat++(cnt2 (r.f1-r.f0).toNat++layB (r.f1+2) l)
def Zco (last:Int) (l:List Z1):Prop:=0≤last∧last≤1099511627778∧Z5q l∧∀ r∈l,last≤r.f0
theorem Zco.next {last:Int} {r:Z1} {l:List Z1} (h:Zco last (r::l)):Zco (r.f1+2) l :=
 ⟨by have:=h.2.2.1.head;omega,by have:=h.2.2.1.head;omega,h.2.2.1.tail,fun x hx=>by have:=(List.pairwise_cons.1 h.2.2.1.gap).1 x hx;omega⟩
theorem layB_len:∀ (l:List Z1) (last:Int),(layB last l).length≤142*l.length
 | [],_=>by simp[layB]
 | r::l,last=>by
  have:=layB_len l (r.f1+2)
  have:=Z22 (r.f0-last).toNat
  have:=Z22 (r.f1-r.f0).toNat
  simp only[layB,List.length_append,List.length_cons];omega
theorem take_l0 {b:List Int} (hb:Src b) (t:Int×Int×Int) (x:List Z1) (hx:x.length<1000) (ht:t.1=(x.length:Int)) (z:List Bool):∀ (suf pre:List Z1) (a:Nat) (last i:Int),x=pre++suf→i=(pre.length:Int)→Zco last suf→a≤8*b.length →
  (Zz b).drop a=layB last suf++z→∃ a':Nat,Z0p.l0 b t (a:Int) 0 pre last i=some ((a':Int),0,x)∧a'≤8*b.length∧(Zz b).drop a'=z:=by
 intro suf
 induction suf with
 | nil =>
  intro pre a last i h1 hi hB ha h
  rw[List.append_nil] at h1
  subst h1
  rw[Z0p.l0,if_neg (by simp;omega),sb,if_neg (by simp)]
  exact⟨a,rfl,ha,by simpa[layB] using h⟩
 | cons r suf ih =>
  intro pre a last i h1 hi hB ha h
  have hlen:x.length=pre.length+(suf.length+1):=by rw[h1];simp
  have hr:=hB.2.2.1.head
  have hr2:=hB.2.2.2 r (by simp)
  have hb1:=hB.1
  have hb2:=hB.2.1
  rw[layB,List.append_assoc,List.append_assoc] at h
  have l1:=congrArg List.length h
  simp only[List.length_drop,Z0j,List.length_append] at l1
  have s1:=Z3l hb (n:=(r.f0-last).toNat) (m:=1099511627776) (by omega) (by omega) ha h
  have d1:(Zz b).drop (a+(cnt2 (r.f0-last).toNat).length)=cnt2 (r.f1-r.f0).toNat++(layB (r.f1+2) suf++z):=by
   rw[← List.drop_drop,h,List.drop_left]
  have s2:=Z3l hb (n:=(r.f1-r.f0).toNat) (m:=1099511627776) (by omega) (by omega) (by omega) d1
  have d2:(Zz b).drop (a+(cnt2 (r.f0-last).toNat).length+(cnt2 (r.f1-r.f0).toNat).length)=layB (r.f1+2) suf++z:=by
   rw[← List.drop_drop,d1,List.drop_left]
  unfold Z0p.l0 Zs.f
  rw[if_pos (by simp;omega),sb,sb,if_pos (by simp),show Z4.f b (a:Int) 0 1099511627776=_ from s1,sb]
  dsimp only
  rw[show Z4.f b ((a+(cnt2 (r.f0-last).toNat).length:Nat):Int) 0 1099511627776=_ from s2,sb]
  dsimp only
  rw[Zf (n:=last+((r.f0-last).toNat:Int)) (by omega) (by omega),Zf (n:=last+((r.f0-last).toNat:Int)+((r.f1-r.f0).toNat:Int)) (by omega) (by omega),if_neg (by simp;omega),sb]
  dsimp only
  have er:(⟨last+((r.f0-last).toNat:Int),last+((r.f0-last).toNat:Int)+((r.f1-r.f0).toNat:Int)⟩:Z1)=r:=by
   have e0:last+((r.f0-last).toNat:Int)=r.f0:=by omega
   have e1:r.f0+((r.f1-r.f0).toNat:Int)=r.f1:=by omega
   rw[e0,e1]
  rw[er,chkB (by simp;omega),show last+((r.f0-last).toNat:Int)+((r.f1-r.f0).toNat:Int)=r.f1 by omega,Zf (n:=r.f1+2) (by omega) (by omega),Zf (n:=i+1) (by omega) (by omega)]
  exact ih (pre++[r]) _ (r.f1+2) (i+1) (by simp[h1]) (by simp;omega) hB.next (by omega) d2
theorem take_rev_l0 {b:List Int} (hb:Src b) (t:Int×Int×Int) (n:Nat) (hn:n<1000) (ht:t.1=(n:Int)):∀ (m:Nat) (pre:List Z1) (a:Nat) (last i:Int),pre.length+m=n→i=(pre.length:Int)→0≤last→last≤1099511627778→Z5q pre→(∀ r∈pre,r.f1+2≤last)→a≤8*b.length →
  ∃ (a':Nat) (e:Int) (l:List Z1),Z0p.l0 b t (a:Int) 0 pre last i=some ((a':Int),e,l)∧a'≤8*b.length∧(e≠0∨(e=0∧l.length=n∧Z5q l∧∃ suf,l=pre++suf∧(Zz b).drop a=layB last suf++(Zz b).drop a')):=by
 intro m
 induction m with
 | zero =>
  intro pre a last i hp hi h0 h1 hA hg ha
  rw[Z0p.l0,if_neg (by simp;omega),sb,if_neg (by simp)]
  exact⟨a,0,pre,rfl,ha,.inr ⟨rfl,by omega,hA,[],by simp,by simp[layB]⟩⟩
 | succ m ih =>
  intro pre a last i hp hi h0 h1 hA hg ha
  obtain⟨d1,a1,e1,s1,k1,k2,k3⟩:=Z4w hb (m:=1099511627776) (by omega) ha
  have stop:∀ (a2:Nat) (e2:Int) (l:List Z1) (la:Int) (i':Int),a2≤8*b.length→e2≠0→∃ (a':Nat) (e:Int) (l':List Z1),Z0p.l0 b t (a2:Int) e2 l la i'=some ((a':Int),e,l')∧a'≤8*b.length∧(e≠0∨(e=0∧l'.length=n∧Z5q l'∧∃ suf,l'=pre++suf∧(Zz b).drop a=layB last suf++(Zz b).drop a')):=fun a2 e2 l la i' q1 q2=>by
   unfold Z0p.l0 Zs.f
   have:((if(decide (i'<t.1))=true then((some ():Option Unit)>>=fun t3891=>some (e2==(0:Int))) else(some false)):Option (Bool))=some false:=by
    split
    ·rw[sb];simp[q2]
    ·rfl
   rw[this,sb,if_neg (by simp)]
   exact⟨a2,e2,l,rfl,q1,.inl q2⟩
  unfold Z0p.l0 Zs.f
  rw[if_pos (by simp;omega),sb,sb,if_pos (by simp),show Z4.f b (a:Int) 0 1099511627776=_ from s1,sb]
  dsimp only
  have hroom:∀ r:Z1,(pre.length+[r].length)*16≤140737488355328:=fun r=>by simp;omega
  rcases k3 with ⟨rfl,k3⟩ | ⟨k3,rfl⟩
  case inr =>
   rw[Z5v k3,sb]
   dsimp only
   have w1:i64.wrap (last+((0:Nat):Int))=last:=by rw[Zf (by omega) (by omega)];simp
   have w2:i64.wrap (last+0)=last:=by rw[Zf (by omega) (by omega)];simp
   rw[w1,w2]
   by_cases hlt:last>1099511627776
   ·rw[if_pos (by simpa using hlt),Z5v       k3,sb,sb]
    dsimp only
    rw[chkB (hroom _)]
    exact stop a1 e1 _ _ _ k1 k3
   ·rw[if_neg (by simpa using hlt),sb]
    dsimp only
    rw[chkB (hroom _)]
    exact stop a1 e1 _ _ _ k1 k3
  obtain⟨d2,a2,e2,s2,j1,j2,j3⟩:=Z4w hb (m:=1099511627776) (by omega) k1
  rw[show Z4.f b (a1:Int) 0 1099511627776=_ from s2,sb]
  dsimp only
  rw[Zf (n:=last+(d1:Int)) (by omega) (by omega),Zf (n:=last+(d1:Int)+(d2:Int)) (by omega) (by omega)]
  by_cases he2:e2=0
  case neg =>
   by_cases hlt:last+(d1:Int)+(d2:Int)>1099511627776
   ·rw[if_pos (by simpa using hlt),Z5v       he2,sb,sb]
    dsimp only
    rw[chkB (hroom _)]
    exact stop a2 e2 _ _ _ j1 he2
   ·rw[if_neg (by simpa using hlt),sb]
    dsimp only
    rw[chkB (hroom _)]
    exact stop a2 e2 _ _ _ j1 he2
  subst he2
  rcases j3 with ⟨_,j3⟩ | ⟨j3,_⟩
  case inr=>exact absurd rfl j3
  by_cases hlt:last+(d1:Int)+(d2:Int)>1099511627776
  ·obtain⟨a3,e3,s3,q1,q2⟩:=small_neg hb j1
   rw[if_pos (by simpa using hlt),s3,sb,sb]
   dsimp only
   rw[chkB (hroom _)]
   exact stop a3 e3 _ _ _ q1 q2
  ·rw[if_neg (by simpa using hlt),sb]
   dsimp only
   rw[chkB (hroom _),Zf (n:=last+(d1:Int)+(d2:Int)+2) (by omega) (by omega),Zf (n:=i+1) (by omega) (by omega)]
   have hA':Z5q (pre++[(⟨last+(d1:Int),last+(d1:Int)+(d2:Int)⟩:Z1)]):=Za5 hA ⟨by show 0≤last+(d1:Int);omega,by show last+(d1:Int)≤last+(d1:Int)+(d2:Int);omega,by show last+(d1:Int)+(d2:Int)≤1099511627776;omega⟩ (fun r hr=>by have:=hg r hr;show r.f1+1<last+(d1:Int);omega)
   obtain⟨a',e,l,g1,g2,g3⟩:=ih (pre++[(⟨last+(d1:Int),last+(d1:Int)+(d2:Int)⟩:Z1)]) a2 (last+(d1:Int)+(d2:Int)+2) (i+1) (by simp;omega) (by simp;omega) (by omega) (by omega) hA' (fun r hr=>by
    rcases List.mem_append.1 hr with hr | hr
    ·have:=hg r hr;omega
    ·simp at hr;subst hr;show last+(d1:Int)+(d2:Int)+2≤_;omega) j1
   refine⟨a',e,l,g1,g2,?_⟩
   rcases g3 with g3 | ⟨g3,g4,g5,suf,g6,g7⟩
   ·exact .inl g3
   ·refine .inr ⟨g3,g4,g5,(⟨last+(d1:Int),last+(d1:Int)+(d2:Int)⟩:Z1         )::suf,by rw[g6];simp,?_⟩
    rw[k3,j3,g7,layB]
    show _=cnt2 (last+(d1:Int)-last).toNat++(cnt2 (last+(d1:Int)+(d2:Int)-(last+(d1:Int))).toNat++layB (last+(d1:Int)+(d2:Int)+2) suf)++_
    rw[show(last+(d1:Int)-last).toNat=d1 by omega,show(last+(d1:Int)+(d2:Int)-(last+(d1:Int))).toNat=d2 by omega]
    simp
end Go.Proofs.YtinhldbfifpakaaGreat.PvGL
set_option linter.unusedVariables false
set_option linter.unusedSimpArgs false
set_option maxRecDepth 10000
namespace Go.Proofs.YtinhldbfifpakaaGreat.PvGL
open Go Go.Pv Go.Pv.GS Go.IntKind
theorem lay9_l0 (l:List Z1) (hl:l.length<1000):∀ (suf pre:List Z1) (b:List Int) (f:Nat) (s:List Bool) (last i:Int),l=pre++suf→i=(pre.length:Int)→Zco last suf→s.length+142*suf.length<700000000→Laid b f s →
  ∃ (b':List Int) (f':Nat),Z18.l0 ⟨l⟩ b (f:Int) last i=some (b',(f':Int))∧Laid b' f' (s++layB last suf):=by
 intro suf
 induction suf with
 | nil =>
  intro pre b f s last i h1 hi hB hs h
  rw[Z18.l0,if_neg (by rw[h1];simp[hi])]
  exact⟨b,f,rfl,by simpa[layB] using h⟩
 | cons r suf ih =>
  intro pre b f s last i h1 hi hB hs h
  have hlen:l.length=pre.length+(suf.length+1):=by rw[h1];simp
  have hr:=hB.2.2.1.head
  have hr2:=hB.2.2.2 r (by simp)
  have hb1:=hB.1
  have hb2:=hB.2.1
  have hc1:=Z22 (r.f0-last).toNat
  have hc2:=Z22 (r.f1-r.f0).toNat
  simp only[List.length_cons] at hs
  rw[Z18.l0,if_pos (by simp;omega),Z1q h1 hi,sb,Zf (n:=r.f0-last) (by omega) (by omega),Zf (n:=r.f1-r.f0) (by omega) (by omega),Z40 (n:=r.f0-last) (by omega) (by omega),Z40 (n:=r.f1-r.f0) (by omega) (by omega),Zf (n:=r.f1+2) (by omega) (by omega),Zf (n:=i+1) (by omega) (by omega)]
  obtain⟨b1,f1,e1,h1'⟩:=Z5d h (by omega) (n:=r.f0-last) (by omega) (by omega)
  obtain⟨b2,f2,e2,h2'⟩:=Z5d h1' (by simp;omega) (n:=r.f1-r.f0) (by omega) (by omega)
  rw[e1,sb]
  dsimp only
  rw[e2,sb]
  obtain⟨b3,f3,e3,h3'⟩:=ih (pre++[r]) b2 f2 _ (r.f1+2) (i+1) (by simp[h1]) (by simp;omega) hB.next (by simp;omega) h2'
  exact⟨b3,f3,e3,by rw[layB];simpa using h3'⟩
theorem lay9_eq {b:List Int} {f:Nat} {s:List Bool} (hL:Laid b f s) (hs:s.length<600000000) (l:List Z1) (hl:l.length<1000) (h:Z5q l):∃ (b':List Int) (f':Nat),Z18.f ⟨l⟩ b (f:Int)=some (b',(f':Int))∧Laid b' f' (s++(cnt2 l.length++layB 0 l)):=by
 have hc:=Z22 l.length
 have hB:Zco 0 l:=⟨by omega,by omega,h,fun r hr=>(h.right r hr).1⟩
 unfold Z18.f
 dsimp only
 rw[Z40 (by omega) (by omega)]
 obtain⟨b1,f1,e1,h1⟩:=Z5d (n:=(l.length:Int)) hL (by omega) (by omega) (by omega)
 rw[e1,sb]
 dsimp only
 rw[Int.toNat_natCast] at h1
 obtain⟨b2,f2,e2,h2⟩:=lay9_l0 l hl l [] b1 f1 _ 0 0 rfl rfl hB (by rw[List.length_append];omega) h1
 rw[e2,sb]
 exact⟨b2,f2,rfl,by rw[← List.append_assoc];exact h2⟩
theorem take_at {b:List Int} (hb:Src b) (x:List Z1) {m:Nat} (hm:m<1000) (hx:x.length≤m) (h:Z5q x) {a:Nat} (ha:a≤8*b.length) (z:List Bool) (hd:(Zz b).drop a=(cnt2 x.length++layB 0 x)++z) :
  Z0p.f b (a:Int) 0 (m:Int)=some (⟨x⟩,((a+(cnt2 x.length++layB 0 x).length:Nat):Int),0):=by
 have hB:Zco 0 x:=⟨by omega,by omega,h,fun r hr=>(h.right r hr).1⟩
 have l1:=congrArg List.length hd
 simp only[List.length_drop,Z0j,List.length_append] at l1
 have hd1:(Zz b).drop a=cnt2 x.length++(layB 0 x++z):=by rw[hd,List.append_assoc]
 have hd2:(Zz b).drop (a+(cnt2 x.length).length)=layB 0 x++z:=by rw[← List.drop_drop,hd1,List.drop_left' rfl]
 have s1:=Z3l hb (n:=x.length) (m:=m) hx (by omega) ha hd1
 unfold Z0p.f Zs.f
 rw[s1,sb]
 dsimp only
 obtain⟨a',e,h1,h2⟩:=take_l0 hb ((x.length:Int),((a+(cnt2 x.length).length:Nat):Int),0) x (by omega) rfl z x [] (a+(cnt2 x.length).length) 0 0 rfl rfl hB (by omega) hd2
 rw[e,sb]
 dsimp only
 rw[sb,if_neg (by simp)]
 have l2:=congrArg List.length h2
 simp only[List.length_drop,Z0j] at l2
 congr 4
 rw[List.length_append]
 omega
theorem take_any {b:List Int} (hb:Src b) {m:Nat} (hm:m<256) {a:Nat} (ha:a≤8*b.length) (e:Int):∃ (z:List Z1) (a1:Nat) (e1:Int),Z0p.f b (a:Int) e (m:Int)=some (⟨z⟩,(a1:Int),e1)∧a1≤8*b.length∧(e≠0→e1≠0)∧((e1≠0∧z=[])∨(e1=0∧z.length≤m∧Z5q z∧(Zz b).drop a=cnt2 z.length++layB 0 z++(Zz b).drop a1)):=by
 unfold Z0p.f
 have bad:∀ (a1:Nat) (e1:Int),e1≠0→(Z0p.l0 b (0,(a1:Int),e1) (a1:Int) e1 [] 0 0>>=fun oo=>match oo with | (x6418,x6419,x6420)=>((Zs.f b x6418 x6419)>>=fun t6423=>if(x6419 != (0:Int))=true then(some ((⟨[]⟩:Z2x),x6418,x6419)) else(some ((⟨x6420⟩:Z2x),x6418,x6419))))=some (⟨[]⟩,(a1:Int),e1):=by
  intro a1 e1 he
  unfold Z0p.l0 Zs.f
  rw[if_neg (by simp),sb,if_neg (by simp),sb]
  dsimp only
  rw[sb,if_pos (by simpa using he)]
 by_cases h0:e=0
 case neg =>
  rw[Z5v h0,sb]
  exact⟨[],a,e,bad a e h0,ha,fun h=>h,.inl ⟨h0,rfl⟩⟩
 subst h0
 obtain⟨n,a1,e1,s1,k1,k2,k3⟩:=Z4w hb (m:=m) (by omega) ha
 rw[s1,sb]
 dsimp only
 by_cases he:e1=0
 case neg =>
  rcases k3 with ⟨k3,_⟩ | ⟨_,rfl⟩
  ·exact absurd k3 he
  exact⟨[],a1,e1,bad a1 e1 he,k1,fun _=>he,.inl ⟨he,rfl⟩⟩
 subst he
 rcases k3 with ⟨_,k3⟩ | ⟨k3,_⟩
 case inr=>exact absurd rfl k3
 obtain⟨a',e,l,g1,g2,g3⟩:=take_rev_l0 hb ((n:Int),(a1:Int),0) n (by omega) rfl n [] a1 0 0 (by simp) rfl (by omega) (by omega) Z5q.nil (by simp) k1
 rw[g1,sb]
 unfold Zs.f
 dsimp only
 rw[sb]
 rcases g3 with g3 | ⟨rfl,g4,g5,suf,g6,g7⟩
 ·rw[if_pos (by simpa using g3)]
  exact⟨[],a',e,rfl,g2,fun h=>absurd rfl h,.inl ⟨g3,rfl⟩⟩
 ·rw[if_neg (by simp)]
  rw[List.nil_append] at g6
  subst g6
  refine⟨l,a',0,rfl,g2,fun h=>absurd rfl h,.inr ⟨rfl,by omega,g5,?_⟩⟩
  exact k3.trans (by rw[g7,List.append_assoc,g4])
theorem apart_one {r:Z1} (h:Z4g r):Z5q [r]:=⟨by simpa using h,by simp⟩
theorem of_one {r:Z1} (h:Z4g r):Z3n.f [r]=some ⟨[r]⟩:=by
 obtain⟨x,e,hA,hH,hl⟩:=of_spec [r] (by simp)
 rw[e]
 have h1:HasL [r] r.f0:=⟨r,by simp,h,by omega,h.2.1⟩
 have h2:HasL [r] r.f1:=⟨r,by simp,h,h.2.1,by omega⟩
 obtain⟨q,hq,hqr,q1,q2⟩:=(hH r.f0).2 h1
 obtain⟨p,hp,hpr,p1,p2⟩:=(hH r.f1).2 h2
 cases x with
 | nil=>simp at hq
 | cons y x =>
  have hx:x=[]:=by simp at hl;exact hl
  subst hx
  simp at hq hp
  subst hq;subst hp
  obtain⟨u,hu,_,u1,u2⟩:=(hH p.f0).1 ⟨p,by simp,hqr,by omega,hqr.2.1⟩
  obtain⟨v,hv,_,v1,v2⟩:=(hH p.f1).1 ⟨p,by simp,hqr,hqr.2.1,by omega⟩
  simp at hu hv
  subst hu;subst hv
  have e1:p.f0=v.f0:=by omega
  have e2:p.f1=v.f1:=by omega
  have:p=v:=by cases p;cases v;simp_all
  rw[this]
end Go.Proofs.YtinhldbfifpakaaGreat.PvGL
