import Derived.Deep.Draws
import Derived.Lib.LaidTab
import Derived.Sort.Grow
import Derived.Sort.OwnSorted
import Derived.Test.YtpoihfcehejgfaaGreatPxBlockReads05
set_option linter.unusedVariables false
set_option linter.unusedSimpArgs false
namespace Go.Pv.GS
theorem halves (L:Int→Int→Option Int) (pred:Nat→Bool) (lo0 hi0:Nat) (hend:∀ lo:Nat,lo0≤lo→lo≤hi0→L lo lo=some (lo:Int)) (hstep:∀ lo hi:Nat,lo0≤lo→lo<hi→hi≤hi0→L lo hi=if pred ((lo+hi) / 2)=true then L (((lo+hi) / 2+1:Nat):Int) hi else L lo (((lo+hi) / 2:Nat):Int)) :
  ∀ (n lo hi:Nat),hi-lo≤n→lo0≤lo→lo≤hi→hi≤hi0→∃ s:Nat,L lo hi=some (s:Int)∧lo≤s∧s≤hi∧(lo<s→pred (s-1)=true)∧(s<hi→pred s=false):=by
 intro n
 induction n with
 | zero =>
  intro lo hi hn h0 h1 h2;obtain rfl:lo=hi:=by omega
  exact⟨lo,hend lo h0 h2,Nat.le_refl _,Nat.le_refl _,fun h=>by omega,fun h=>by omega⟩
 | succ n ih =>
  intro lo hi hn h0 h1 h2;by_cases he:lo=hi
  ·subst he;exact⟨lo,hend lo h0 h2,Nat.le_refl _,Nat.le_refl _,fun h=>by omega,fun h=>by omega⟩
  rw[hstep lo hi h0 (by omega) h2];cases e:pred ((lo+hi) / 2) with
  | true =>
   rw[if_pos rfl];obtain⟨s,g1,g2,g3,g4,g5⟩:=ih ((lo+hi) / 2+1) hi (by omega) (by omega) (by omega) h2;refine⟨s,g1,by omega,g3,fun _ => ?_,g5⟩;by_cases hs:(lo+hi) / 2+1<s
   ·exact g4 hs
   ·rw[show s-1=(lo+hi) / 2 by omega];exact e
  | false =>
   rw[if_neg (by simp)];obtain⟨s,g1,g2,g3,g4,g5⟩:=ih lo ((lo+hi) / 2) (by omega) h0 (by omega) (by omega);refine⟨s,g1,g2,by omega,g4,fun _ => ?_⟩;by_cases hs:s<(lo+hi) / 2
   ·exact g5 hs
   ·rw[show s=(lo+hi) / 2 by omega];exact e
theorem Zfb {α β:Type} {l:List α} {i:Int} {k:Nat} {x:α} (hi:i=(k:Int)) (hx:l[k]? = some x) (f:α→Option β):(at? l i>>=f)=f x:=by
 subst hi;have:at? l (k:Int)=some x:=by unfold at?;rw[if_pos (by omega)];simpa using hx
 rw[this];rfl
theorem ifand {c d:Bool}:((if c=true then some d else some false):Option Bool)=some (c&&d):=by cases c<;>rfl
theorem ifor {c d:Bool}:((if c=true then some true else some d):Option Bool)=some (c||d):=by cases c<;>rfl
section Run
variable {α:Type} {cmp:α→α→Option Int} {lt:α→α→Bool}
theorem srt_get {Y:List α} (hs:Srt lt Y) {i j:Nat} {y z:α} (hi:Y[i]? = some y) (hj:Y[j]? = some z) (hij:i<j):lt z y=false:=by
 obtain⟨h1,rfl⟩:=List.getElem?_eq_some_iff.1 hi;obtain⟨h2,rfl⟩:=List.getElem?_eq_some_iff.1 hj;exact List.pairwise_iff_getElem.1 hs i j h1 h2 hij
theorem Zer (h:SWO lt) {Y:List α} (hs:Srt lt Y) {t:Nat} {x:α} (hb:∀ z,0<t→Y[t-1]? = some z→lt z x=true) (ht:t≤Y.length):∀ y∈Y.take t,lt y x=true:=by
 intro y hy;obtain⟨i,hi,rfl⟩:=List.mem_iff_getElem.1 hy;rw[List.length_take] at hi;rw[List.getElem_take];have hz:=hb (Y[t-1]'(by omega)) (by omega) (by simp);by_cases e:i=t-1
 ·subst e;exact hz
 ·have h1:=List.pairwise_iff_getElem.1 hs i (t-1) (by omega) (by omega) (by omega)
  cases e2:lt Y[i] x with
  | true=>rfl
  | false=>rw[h.trans _ _ _ e2 h1] at hz;exact hz
theorem take_le (h:SWO lt) {X:List α} (hs:Srt lt X) {t:Nat} {y:α} (hb:∀ z,0<t→X[t-1]? = some z→lt y z=false) (ht:t≤X.length):∀ x∈X.take t,lt y x=false:=by
 intro x hx;obtain⟨i,hi,rfl⟩:=List.mem_iff_getElem.1 hx;rw[List.length_take] at hi;rw[List.getElem_take];have hz:=hb (X[t-1]'(by omega)) (by omega) (by simp);by_cases e:i=t-1
 ·subst e;exact hz
 ·exact h.trans _ _ _ (List.pairwise_iff_getElem.1 hs i (t-1) (by omega) (by omega) (by omega)) hz
theorem Zd3 {Y:List α} (hs:Srt lt Y) {t:Nat} {z:α} (hz:Y[t]? = some z):∀ y∈Y.drop t,y=z∨lt y z=false:=by
 intro y hy;obtain⟨i,hi,rfl⟩:=List.mem_iff_getElem.1 hy;rw[List.length_drop] at hi;rw[List.getElem_drop];by_cases e:i=0
 ·subst e;left
  obtain⟨h1,h2⟩:=List.getElem?_eq_some_iff.1 hz;simpa using h2
 ·right
  exact srt_get hs hz (by simp:Y[t+i]? = some (Y[t+i]'(by omega))) (by omega)
theorem sym_l1 (x:α) (x0:Int):∀ (Y A R:List α) (k:Int),k=(A.length:Int)→x0=((A.length+1+Y.length:Nat):Int)→A.length+1+Y.length<10000000000000000 →
  symMerge.l1 x0 (A++x::Y++R) k=some (A++Y++x::R):=by
 intro Y
 induction Y with
 | nil =>
  intro A R k hk h0 hb;rw[symMerge.l1,Z8 (n:=x0-1) (by omega) (by omega),if_neg (by simp at h0 ⊢;omega)];simp
 | cons y Y ih =>
  intro A R k hk h0 hb;simp only[List.length_cons] at h0 hb;rw[symMerge.l1,Z8 (n:=x0-1) (by omega) (by omega),if_pos (by simp;omega),Z8 (by omega) (by omega)];rw[show A++x::y::Y++R=(A++[x])++y::(Y++R) by simp,Z7t _ _ _ (by simp;omega)];rw[show(A++[x])++y::(Y++R)=A++x::(y::(Y++R)) by simp,Z7t _ _ _ hk,Z95 _ _ _ _ (by rw[hk];simp)];rw[show A++y::(y::(Y++R))=(A++[y])++y::(Y++R) by simp,Z7t _ _ _ (by simp;omega),Z95 _ _ _ _ (by simp;omega)];have:=ih (A++[y]) R (k+1) (by simp;omega) (by simp;omega) (by simp;omega);simp only[List.append_assoc,List.cons_append,List.singleton_append] at this ⊢;exact this
theorem sym_l3 (x:α) (A:List α) (x0:Int) (h0:x0=(A.length:Int)):∀ (n:Nat) (X R:List α) (k:Int),X.length=n→k=((A.length+X.length:Nat):Int)→A.length+X.length<10000000000000000 →
  symMerge.l3 x0 (A++X++x::R) k=some (A++x::X++R):=by
 intro n
 induction n with
 | zero =>
  intro X R k hn hk hb;obtain rfl:X=[]:=List.length_eq_zero_iff.1 hn;rw[symMerge.l3,if_neg (by simp at hk ⊢;omega)];simp
 | succ n ih =>
  intro X R k hn hk hb;rcases List.eq_nil_or_concat X with rfl | ⟨P,p,rfl⟩
  ·simp at hn
  simp only[List.concat_eq_append] at *;simp only[List.length_append,List.length_singleton] at hn hk hb;rw[symMerge.l3,if_pos (by simp;omega),Z8 (by omega) (by omega)];rw[show A++(P++[p])++x::R=(A++P)++p::(x::R) by simp,Z7t _ _ _ (by simp;omega)];rw[show(A++P)++p::(x::R)=(A++P++[p])++x::R by simp,Z7t _ _ _ (by simp;omega),Z95 _ _ _ _ (by simp;omega)];rw[show(A++P++[p])++p::R=(A++P)++p::(p::R) by simp,Z7t _ _ _ (by simp;omega),Z95 _ _ _ _ (by simp;omega)];have:=ih P (p::R) (k-1) (by omega) (by omega) (by omega);rw[this];simp
theorem get_mid {A X B:List α} {k i:Nat} (h:k=A.length+i) (hi:i<X.length):(A++X++B)[k]? = X[i]? := by
 subst h;rw[List.append_assoc,List.getElem?_append_right (by omega),List.getElem?_append_left (by omega)];congr 1;omega
theorem sym_f (hc:Cmp cmp lt) (h:SWO lt):∀ (n:Nat) (A X Y C:List α) (a m b:Int),X.length+Y.length≤n→0<X.length→0<Y.length→Srt lt X→Srt lt Y →
  a=(A.length:Int)→m=((A.length+X.length:Nat):Int)→b=((A.length+X.length+Y.length:Nat):Int)→A.length+X.length+Y.length<10000000000000000 →
  symMerge.f cmp (A++X++Y++C) a m b=some (A++mrg lt X Y++C):=by
 intro n
 induction n with
 | zero=>intro A X Y C a m b hn h1;omega
 | succ n ih =>
  intro A X Y C a m b hn h1 h2 hX hY ha hm hb hB;rw[symMerge.f];by_cases c1:X.length=1
  ·
   obtain⟨x,rfl⟩:=List.length_eq_one_iff.1 c1;simp only[List.length_singleton] at hm hb hB;rw[Z8 (n:=m-a) (by omega) (by omega),if_pos (by simp;omega)];have hg:∀ k,A.length+1≤k→k<A.length+1+Y.length→(A++[x]++Y++C)[k]? = Y[k-(A.length+1)]? := fun k hk1 hk2=>by
    have:=get_mid (A:=A++[x]) (X:=Y) (B:=C) (k:=k) (i:=k-(A.length+1)) (by simp;omega) (by omega);exact this
   have hx:(A++[x]++Y++C)[A.length]? = some x:=by simp
   obtain⟨s,g1,g2,g3,g4,g5⟩:=halves (fun lo hi=>symMerge.l0 cmp (A++[x]++Y++C) a lo hi) (fun k=>lt ((Y[k-(A.length+1)]?).getD x) x) (A.length+1) (A.length+1+Y.length)
    (fun lo _ _=>by(try simp only[]);rw[symMerge.l0,if_neg (by simp)])
    (fun lo hi q1 q2 q3=>by
     try simp only[]
     rw[symMerge.l0,if_pos (by simp;omega),mid64 (by omega) (by omega) (by omega)];have hh:((lo:Int)+hi) / 2=(((lo+hi) / 2:Nat):Int):=by omega
     have hk:=hg ((lo+hi) / 2) (by omega) (by omega);have hlt:(lo+hi) / 2-(A.length+1)<Y.length:=by omega
     obtain⟨c,hcc,hcl⟩:=hc (Y[(lo+hi) / 2-(A.length+1)]) x;rw[List.getElem?_eq_getElem hlt] at hk ⊢;rw[Zfb hh hk,Zfb ha hx,hcc,sb,hcl,Option.getD_some,hh];cases lt (Y[(lo+hi) / 2-(A.length+1)]) x with
     | true=>rw[if_pos rfl,sb,if_pos rfl,Z8 (by omega) (by omega)];rfl
     | false=>rw[if_neg (by simp),sb,if_neg (by simp)])
    _ (A.length+1) (A.length+1+Y.length) (Nat.le_refl _) (Nat.le_refl _) (by omega) (Nat.le_refl _)
   have e1:m=((A.length+1:Nat):Int):=hm;have e2:b=((A.length+1+Y.length:Nat):Int):=hb
   try simp only[] at g1
   rw[e1,e2,g1,sb];have ht:s-(A.length+1)≤Y.length:=by omega
   have hsplit:=List.take_append_drop (s-(A.length+1)) Y;have b1:=Zer h hY (t:=s-(A.length+1)) (x:=x) (fun z hz hz2=>by
    have:=g4 (by omega);rw[show s-1-(A.length+1)=s-(A.length+1)-1 by omega,hz2] at this;exact this) ht
   have b2:∀ y∈Y.drop (s-(A.length+1)),lt y x=false:=by
    by_cases hse:s<A.length+1+Y.length
    ·have hz:=g5 hse
     have hlt:s-(A.length+1)<Y.length:=by omega
     rw[List.getElem?_eq_getElem hlt,Option.getD_some] at hz;intro y hy;rcases Zd3 hY (List.getElem?_eq_getElem hlt) y hy with rfl | hy2
     ·exact hz
     ·exact h.trans _ _ _ hz hy2
    ·rw[List.drop_eq_nil_of_le (by omega)];simp
   have hl1:=sym_l1 x (s:Int) (Y.take (s-(A.length+1))) A (Y.drop (s-(A.length+1))++C) a ha (by rw[List.length_take];omega) (by rw[List.length_take];omega);rw[show A++[x]++Y++C=A++x::Y.take (s-(A.length+1))++(Y.drop (s-(A.length+1))++C) by
    simp only[List.append_assoc,List.cons_append,List.nil_append];rw[← List.append_assoc (Y.take _),hsplit],hl1,sb]
   have m1:=Z7b (lt:=lt) _ [] [x] (Y.take (s-(A.length+1))) (Y.drop (s-(A.length+1))) (Nat.le_refl _) (by simp) (fun y hy z hz=>by simp at hz;subst hz;exact b1 y hy);have m2:=Z7b (lt:=lt) _ [x] [] [] (Y.drop (s-(A.length+1))) (Nat.le_refl _) (fun z hz y hy=>by simp at hz;subst hz;exact b2 y hy) (by simp);rw[hsplit] at m1;simp only[List.nil_append,List.append_nil,Z6b,Z83] at m1 m2;rw[m1,m2];simp
  rw[Z8 (n:=m-a) (by omega) (by omega),if_neg (by simp;omega)];by_cases c2:Y.length=1
  ·
   obtain⟨y,rfl⟩:=List.length_eq_one_iff.1 c2;simp only[List.length_singleton] at hb hB;rw[Z8 (n:=b-m) (by omega) (by omega),if_pos (by simp;omega)];have hg:∀ k,A.length≤k→k<A.length+X.length→(A++X++[y]++C)[k]? = X[k-A.length]? := fun k hk1 hk2=>by
    have:=get_mid (A:=A) (X:=X) (B:=[y]++C) (k:=k) (i:=k-A.length) (by omega) (by omega);simpa using this
   have hy:(A++X++[y]++C)[A.length+X.length]? = some y:=by
    rw[List.append_assoc (A++X),List.getElem?_append_right (by simp)];simp
   obtain⟨s,g1,g2,g3,g4,g5⟩:=halves (fun lo hi=>symMerge.l2 cmp (A++X++[y]++C) m lo hi) (fun k => !(lt y ((X[k-A.length]?).getD y))) A.length (A.length+X.length)
    (fun lo _ _=>by(try simp only[]);rw[symMerge.l2,if_neg (by simp)])
    (fun lo hi q1 q2 q3=>by
     try simp only[]
     rw[symMerge.l2,if_pos (by simp;omega),mid64 (by omega) (by omega) (by omega)];have hh:((lo:Int)+hi) / 2=(((lo+hi) / 2:Nat):Int):=by omega
     have hk:=hg ((lo+hi) / 2) (by omega) (by omega);have hlt:(lo+hi) / 2-A.length<X.length:=by omega
     obtain⟨c,hcc,hcl⟩:=hc y (X[(lo+hi) / 2-A.length]);rw[List.getElem?_eq_getElem hlt] at hk ⊢;rw[Zfb hm hy,Zfb hh hk,hcc,sb,hcl,Option.getD_some,hh];cases lt y (X[(lo+hi) / 2-A.length]) with
     | false=>rw[if_pos (show(!false)=true from rfl),sb,if_pos (show(!false)=true from rfl),Z8 (by omega) (by omega)];rfl
     | true=>rw[if_neg (by simp),sb,if_neg (by simp)])
    _ A.length (A.length+X.length) (Nat.le_refl _) (Nat.le_refl _) (by omega) (Nat.le_refl _)
   try simp only[] at g1
   rw[ha,hm] at *;rw[g1,sb];have ht:s-A.length≤X.length:=by omega
   have hsplit:=List.take_append_drop (s-A.length) X;have b1:=take_le h hX (t:=s-A.length) (y:=y) (fun z hz hz2=>by
    have:=g4 (by omega);rw[show s-1-A.length=s-A.length-1 by omega,hz2] at this;simpa using this) ht
   have b2:∀ x∈X.drop (s-A.length),lt y x=true:=by
    by_cases hse:s<A.length+X.length
    ·have hz:=g5 hse
     have hlt:s-A.length<X.length:=by omega
     rw[List.getElem?_eq_getElem hlt,Option.getD_some] at hz;have hz':lt y (X[s-A.length])=true:=by simpa using hz
     intro x hx;rcases Zd3 hX (List.getElem?_eq_getElem hlt) x hx with rfl | hx2
     ·exact hz'
     ·cases e:lt y x with
      | true=>rfl
      | false=>rw[h.trans _ _ _ hx2 e] at hz';exact hz'
    ·rw[List.drop_eq_nil_of_le (by omega)];simp
   have hl3:=sym_l3 y (A++X.take (s-A.length)) (s:Int) (by simp;omega) _ (X.drop (s-A.length)) C ((A.length+X.length:Nat):Int) rfl (by simp;omega) (by simp;omega);rw[show A++X++[y]++C=A++X.take (s-A.length)++X.drop (s-A.length)++y::C by
    simp only[List.append_assoc,List.cons_append,List.nil_append];rw[← List.append_assoc (X.take _),hsplit],hl3,sb]
   have m1:=Z7b (lt:=lt) _ (X.take (s-A.length)) (X.drop (s-A.length)) [] [y] (Nat.le_refl _) (fun x hx z hz=>by simp at hz;subst hz;exact b1 x hx) (by simp);have m2:=Z7b (lt:=lt) _ [] (X.drop (s-A.length)) [y] [] (Nat.le_refl _) (by simp) (fun z hz x hx=>by simp at hz;subst hz;exact b2 x hx);rw[hsplit] at m1;simp only[List.nil_append,List.append_nil,Z6b,Z83] at m1 m2;rw[m1,m2];simp
  rw[Z8 (n:=b-m) (by omega) (by omega),if_neg (by simp;omega),mid64 (by omega) (by omega) (by omega)];generalize hmid:(a+b) / 2=mid;rw[Z8 (n:=mid+m) (by omega) (by omega)];obtain⟨lo,hi,hlohi,q1,q2,q3,q4,q5,q6,q7,q8⟩:∃ lo hi:Nat,((if(decide (m>mid))=true then(some (IntKind.i64.wrap ((mid+m)-b),mid)) else(some (a,m))):Option (Int×Int))=some ((lo:Int),(hi:Int)) ∧
    a≤(lo:Int)∧lo≤hi∧(hi:Int)≤m∧(∀ c:Nat,lo≤c→c<hi→m≤mid+m-1-c∧mid+m-1-(c:Int)<b)∧((lo:Int)=a∨mid+m-lo=b)∧((hi:Int)=m∨mid+m-hi=m)∧(hi:Int)≤mid∧mid+m-lo≤b:=by
   by_cases hmm:m>mid
   ·refine⟨(mid+m-b).toNat,mid.toNat,?_,by omega,by omega,by omega,fun c h1 h2=>by omega,.inr (by omega),.inr (by omega),by omega,by omega⟩
    rw[if_pos (by simpa using hmm),Z8 (by omega) (by omega)];congr 2<;>omega
   ·refine⟨a.toNat,m.toNat,?_,by omega,by omega,by omega,fun c h1 h2=>by omega,.inl (by omega),.inl (by omega),by omega,by omega⟩
    rw[if_neg (by simpa using hmm)];congr 2<;>omega
  rw[hlohi,sb]
  try simp only[]
  have hgX:∀ k,A.length≤k→k<A.length+X.length→(A++X++Y++C)[k]? = X[k-A.length]? := fun k hk1 hk2=>by
   have:=get_mid (A:=A) (X:=X) (B:=Y++C) (k:=k) (i:=k-A.length) (by omega) (by omega);simpa using this
  have hgY:∀ k,A.length+X.length≤k→k<A.length+X.length+Y.length→(A++X++Y++C)[k]? = Y[k-(A.length+X.length)]? := fun k hk1 hk2=>by
   have:=get_mid (A:=A++X) (X:=Y) (B:=C) (k:=k) (i:=k-(A.length+X.length)) (by simp;omega) (by omega);exact this
  obtain⟨x₀,hx₀⟩:∃ x,x∈X:=List.exists_mem_of_length_pos h1
  let p:Nat:=(mid+m-1).toNat
  have hp:(p:Int)=mid+m-1:=by show((mid+m-1).toNat:Int)=_;omega
  obtain⟨s,g1,g2,g3,g4,g5⟩:=halves (fun lo hi=>symMerge.l4 cmp (A++X++Y++C) a m b lo hi) (fun k => !(lt ((Y[p-k-(A.length+X.length)]?).getD x₀) ((X[k-A.length]?).getD x₀))) lo hi
   (fun lo _ _=>by(try simp only[]);rw[symMerge.l4,if_neg (by simp)])
   (fun lo' hi' r1 r2 r3=>by
    try simp only[]
    have hq:=q4 ((lo'+hi') / 2) (by omega) (by omega);rw[symMerge.l4,if_pos (by simp;omega),mid64 (a:=(lo':Int)) (by omega) (by omega) (by omega),mid64 (a:=a) (by omega) (by omega) (by omega),hmid];have hh:((lo':Int)+hi') / 2=(((lo'+hi') / 2:Nat):Int):=by omega
    rw[Z8 (n:=mid+m) (by omega) (by omega),Z8 (n:=mid+m-1) (by omega) (by omega),Z8 (n:=mid+m-1-_) (by omega) (by omega)];have hk:=hgX ((lo'+hi') / 2) (by omega) (by omega);have hk2:=hgY (p-(lo'+hi') / 2) (by omega) (by omega);have hlt:(lo'+hi') / 2-A.length<X.length:=by omega
    have hlt2:p-(lo'+hi') / 2-(A.length+X.length)<Y.length:=by omega
    obtain⟨c,hcc,hcl⟩:=hc (Y[p-(lo'+hi') / 2-(A.length+X.length)]) (X[(lo'+hi') / 2-A.length]);rw[List.getElem?_eq_getElem hlt] at hk ⊢;rw[List.getElem?_eq_getElem hlt2] at hk2 ⊢;rw[Zfb (k:=p-(lo'+hi') / 2) (by omega) hk2,Zfb hh hk,hcc,sb,hcl,Option.getD_some,Option.getD_some,hh];cases lt (Y[p-(lo'+hi') / 2-(A.length+X.length)]) (X[(lo'+hi') / 2-A.length]) with
    | false=>rw[if_pos (show(!false)=true from rfl),sb,if_pos (show(!false)=true from rfl),Z8 (by omega) (by omega)];rfl
    | true=>rw[if_neg (by simp),sb,if_neg (by simp)])
   _ lo hi (Nat.le_refl _) (Nat.le_refl _) q2 (Nat.le_refl _)
  try simp only[] at g1
  rw[g1,sb,Z8 (n:=mid+m-s) (by omega) (by omega)];obtain⟨X1,X2,rfl,l1⟩:∃ X1 X2,X=X1++X2∧X1.length=s-A.length:=⟨X.take (s-A.length),X.drop (s-A.length),by simp,by simp;omega⟩
  obtain⟨Y1,Y2,rfl,l2⟩:∃ Y1 Y2,Y=Y1++Y2∧(Y1.length:Int)=mid-s:=⟨Y.take (mid-s).toNat,Y.drop (mid-s).toNat,by simp,by
   rw[List.length_take];omega⟩
  simp only[List.length_append] at *;have hX1:Srt lt X1:=(List.pairwise_append.1 hX).1;have hX2:Srt lt X2:=(List.pairwise_append.1 hX).2.1;have hY1:Srt lt Y1:=(List.pairwise_append.1 hY).1;have hY2:Srt lt Y2:=(List.pairwise_append.1 hY).2.1;have k1:∀ x∈X1,∀ y∈Y2,lt y x=false:=by
   intro x hx y hy;have hl1:=List.length_pos_of_mem hx;have hl2:=List.length_pos_of_mem hy;have hsl:lo<s:=by
    rcases q5 with q5 | q5<;>omega
   have hz:=g4 hsl;have i1:s-1-A.length=X1.length-1:=by omega
   have i2:p-(s-1)-(A.length+(X1.length+X2.length))=Y1.length:=by omega
   rw[i1,i2,List.getElem?_append_right (by omega),Nat.sub_self,List.getElem?_append_left (by omega),List.getElem?_eq_getElem hl2,List.getElem?_eq_getElem (by omega),Option.getD_some,Option.getD_some] at hz;have hz:lt Y2[0] X1[X1.length-1]=false:=by simpa using hz
   have a1:=take_le h hX1 (t:=X1.length) (y:=Y2[0]) (fun z _ hz2=>by
    rw[List.getElem?_eq_getElem (by omega)] at hz2;rw[← Option.some.inj hz2];exact hz) (Nat.le_refl _) x (by simpa using hx)
   rcases Zd3 hY2 (t:=0) (List.getElem?_eq_getElem hl2) y (by simpa using hy) with rfl | hy2
   ·exact a1
   ·exact h.trans _ _ _ a1 hy2
  have k2:∀ y∈Y1,∀ x∈X2,lt y x=true:=by
   intro y hy x hx;have hl1:=List.length_pos_of_mem hx;have hl2:=List.length_pos_of_mem hy;have hsl:s<hi:=by
    rcases q6 with q6 | q6<;>omega
   have hz:=g5 hsl;have i1:s-A.length=X1.length:=by omega
   have i2:p-s-(A.length+(X1.length+X2.length))=Y1.length-1:=by omega
   rw[i1,i2,List.getElem?_append_left (by omega),List.getElem?_append_right (by omega),Nat.sub_self,List.getElem?_eq_getElem (by omega),List.getElem?_eq_getElem hl1,Option.getD_some,Option.getD_some] at hz;have hz:lt Y1[Y1.length-1] X2[0]=true:=by simpa using hz
   have a1:=Zer h hY1 (t:=Y1.length) (x:=X2[0]) (fun z _ hz2=>by
    rw[List.getElem?_eq_getElem (by omega)] at hz2;rw[← Option.some.inj hz2];exact hz) (Nat.le_refl _) y (by simpa using hy)
   rcases Zd3 hX2 (t:=0) (List.getElem?_eq_getElem hl1) x (by simpa using hx) with rfl | hx2
   ·exact a1
   ·cases e:lt y x with
    | true=>rfl
    | false=>rw[h.trans _ _ _ hx2 e] at a1;exact a1
  rw[ifand,sb];have hrot:(((if(decide ((s:Int)<m)&&decide (m<mid+m-s))=true then((rotate.f (A++(X1++X2)++(Y1++Y2)++C) s m (mid+m-s))>>=fun t8=>some t8) else(some (A++(X1++X2)++(Y1++Y2)++C))):Option (List α))) =
    some (A++X1++Y1++X2++Y2++C):=by
   by_cases hr:(s:Int)<m∧m<mid+m-s
   ·rw[if_pos (by simp;omega)]
    have:=rot_f (A++X1) X2 Y1 (Y2++C) (s:Int) m (mid+m-s) (by simp;omega) (by simp;omega) (by simp;omega) (by omega) (by omega) (by simp;omega);simp only[List.append_assoc] at this ⊢;rw[this];rfl
   ·rw[if_neg (by simp;omega)]
    rcases(show X2.length=0∨Y1.length=0 by omega) with e | e
    ·obtain rfl:=List.length_eq_zero_iff.1 e;simp
    ·obtain rfl:=List.length_eq_zero_iff.1 e;simp
  rw[hrot,sb,ifand,sb];have hfst:(((if(decide (a<(s:Int))&&decide ((s:Int)<mid))=true then((symMerge.f cmp (A++X1++Y1++X2++Y2++C) a s mid)>>=fun t11=>some t11) else(some (A++X1++Y1++X2++Y2++C))):Option (List α))) =
    some (A++mrg lt X1 Y1++X2++Y2++C):=by
   by_cases hr:a<(s:Int)∧(s:Int)<mid
   ·rw[if_pos (by simp;omega)]
    have:=ih A X1 Y1 (X2++Y2++C) a (s:Int) mid (by omega) (by omega) (by omega) hX1 hY1 ha (by omega) (by omega) (by omega);simp only[List.append_assoc] at this ⊢;rw[this];rfl
   ·rw[if_neg (by simp;omega)]
    rcases(show X1.length=0∨Y1.length=0 by omega) with e | e
    ·obtain rfl:=List.length_eq_zero_iff.1 e;simp[Z6b]
    ·obtain rfl:=List.length_eq_zero_iff.1 e;simp[Z83]
  rw[hfst,sb,ifand,sb];have hsnd:(((if(decide (mid<mid+m-(s:Int))&&decide (mid+m-(s:Int)<b))=true then((symMerge.f cmp (A++mrg lt X1 Y1++X2++Y2++C) mid (mid+m-s) b)>>=fun t11=>some t11) else(some (A++mrg lt X1 Y1++X2++Y2++C))):Option (List α))) =
    some (A++mrg lt X1 Y1++mrg lt X2 Y2++C):=by
   by_cases hr:mid<mid+m-(s:Int)∧mid+m-(s:Int)<b
   ·rw[if_pos (by simp;omega)]
    have:=ih (A++mrg lt X1 Y1) X2 Y2 C mid (mid+m-s) b (by omega) (by omega) (by omega) hX2 hY2 (by rw[List.length_append,mrg_len];omega) (by rw[List.length_append,mrg_len];omega) (by rw[List.length_append,mrg_len];omega) (by rw[List.length_append,mrg_len];omega);rw[this];rfl
   ·rw[if_neg (by simp;omega)]
    rcases(show X2.length=0∨Y2.length=0 by omega) with e | e
    ·obtain rfl:=List.length_eq_zero_iff.1 e;simp[Z6b]
    ·obtain rfl:=List.length_eq_zero_iff.1 e;simp[Z83]
  rw[hsnd,sb,Z7b _ X1 X2 Y1 Y2 (Nat.le_refl _) k1 k2];simp
def Blk (lt:α→α→Bool) (bs:Nat) (l:List α):List α :=
 if h:0<bs∧bs≤l.length then S lt (l.take bs)++Blk lt bs (l.drop bs) else S lt l
termination_by l.length
decreasing_by simp;omega
theorem Zc7 {bs:Nat} (T R:List α) (h0:0<bs) (hT:T.length=bs):Blk lt bs (T++R)=S lt T++Blk lt bs R:=by
 rw[Blk,dif_pos ⟨h0,by simp;omega⟩];simp[← hT]
theorem Z7i {bs:Nat} (l:List α) (hl:l.length<bs):Blk lt bs l=S lt l:=by
 rw[Blk,dif_neg (by omega)]
theorem Blk_all {bs:Nat} (l:List α) (h0:0<bs) (hl:l.length≤bs):Blk lt bs l=S lt l:=by
 by_cases h:l.length=bs
 ·have:=Zc7     (lt:=lt) l [] h0 h
  rw[List.append_nil,Z7i [] (by simpa using h0),S_nil,List.append_nil] at this;exact this
 ·exact Z7i l (by omega)
theorem stb_l0 (hc:Cmp cmp lt) (h:SWO lt) (nn:Int):∀ (n:Nat) (D R:List α) (a b:Int),R.length≤n→nn=((D.length+R.length:Nat):Int)→a=(D.length:Int)→b=a+20→D.length+R.length<1000000000000000 →
  ∃ (D' R':List α),stable.l0 cmp nn (D++R) a b=some (D'++R',(D'.length:Int))∧D'.length+R'.length=D.length+R.length∧D'++S lt R'=D++Blk lt 20 R:=by
 intro n
 induction n with
 | zero =>
  intro D R a b hn h1 h2 h3 hb;obtain rfl:R=[]:=List.length_eq_zero_iff.1 (by omega);rw[stable.l0,if_neg (by simp at h1 ⊢;omega)];exact⟨D,[],by rw[h2],rfl,by rw[Z7i _ (by simp)]⟩
 | succ n ih =>
  intro D R a b hn h1 h2 h3 hb;rw[stable.l0];by_cases hr:20≤R.length
  ·rw[if_pos (by simp;omega)]
   obtain⟨T,R,rfl,hT⟩:∃ T R',R=T++R'∧T.length=20:=⟨R.take 20,R.drop 20,by simp,by simp;omega⟩
   simp only[List.length_append] at *;have:=ins_f hc h D T R a b h2 (by omega) (by omega);rw[← List.append_assoc,this,sb,Z8 (by omega) (by omega)];obtain⟨D',R',g1,g2,g3⟩:=ih (D++S lt T) R b (b+20) (by omega) (by simp[Z6t];omega) (by simp[Z6t];omega) rfl (by simp[Z6t];omega);refine⟨D',R',g1,by simp[Z6t] at g2;omega,by rw[g3,Zc7 T R (by omega) hT,List.append_assoc]⟩
  ·rw[if_neg (by simp;omega)]
   exact⟨D,R,by rw[h2],rfl,by rw[Z7i _ (by omega)]⟩
theorem stb_l2 (hc:Cmp cmp lt) (h:SWO lt) (nn:Int) (bs:Nat) (h0:0<bs):∀ (n:Nat) (D R:List α) (a b:Int),R.length≤n→nn=((D.length+R.length:Nat):Int)→a=(D.length:Int)→b=a+2*(bs:Int)→D.length+R.length<1000000000000000→bs<1000000000000000 →
  ∃ (D' R':List α),stable.l2 cmp nn (bs:Int) (D++Blk lt bs R) a b=some (D'++Blk lt bs R',(D'.length:Int))∧D'.length+R'.length=D.length+R.length∧R'.length<2*bs∧D'++S lt R'=D++Blk lt (2*bs) R:=by
 intro n
 induction n with
 | zero =>
  intro D R a b hn h1 h2 h3 hb hbs;obtain rfl:R=[]:=List.length_eq_zero_iff.1 (by omega);rw[stable.l2,if_neg (by simp at h1 ⊢;omega)];exact⟨D,[],by rw[h2],rfl,by simp;omega,by rw[Z7i (bs:=2*bs) _ (by simp;omega)]⟩
 | succ n ih =>
  intro D R a b hn h1 h2 h3 hb hbs;rw[stable.l2];by_cases hr:2*bs≤R.length
  ·rw[if_pos (by simp;omega)]
   obtain⟨T,R,rfl,hT⟩:∃ T R',R=T++R'∧T.length=bs:=⟨R.take bs,R.drop bs,by simp,by simp;omega⟩
   obtain⟨U,R,rfl,hU⟩:∃ T R',R=T++R'∧T.length=bs:=⟨R.take bs,R.drop bs,by simp,by simp at hr ⊢;omega⟩
   simp only[List.length_append] at *;rw[Zc7 T _ h0 hT,Zc7 U _ h0 hU,Z8 (n:=a+(bs:Int)) (by omega) (by omega),Z8 (n:=2*(bs:Int)) (by omega) (by omega),Z8 (n:=b+_) (by omega) (by omega)];have:=sym_f hc h _ D (S lt T) (S lt U) (Blk lt bs R) a (a+bs) b (Nat.le_refl _) (by rw[Z6t];omega) (by rw[Z6t];omega) (Z9x h T) (Z9x h U) h2 (by rw[Z6t];omega) (by rw[Z6t,Z6t];omega) (by rw[Z6t,Z6t];omega);rw[← List.append_assoc,← List.append_assoc,this,sb,← S_append h];obtain⟨D',R',g1,g2,g3,g4⟩:=ih (D++S lt (T++U)) R b (b+2*(bs:Int)) (by omega) (by simp[Z6t];omega) (by simp[Z6t];omega) rfl (by simp[Z6t];omega) hbs;refine⟨D',R',g1,by simp[Z6t] at g2;omega,g3,?_⟩;rw[g4,← List.append_assoc,Zc7 (T++U) R (by omega) (by simp;omega),List.append_assoc]
  ·rw[if_neg (by simp;omega)]
   exact⟨D,R,by rw[h2],rfl,by omega,by rw[Z7i (bs:=2*bs) _ (by omega)]⟩
theorem stb_l1 (hc:Cmp cmp lt) (h:SWO lt) (l:List α) (hb:l.length<100000000000000):∀ (n bs:Nat),l.length-bs≤n→0<bs→bs<500000000000000 →
  stable.l1 cmp (l.length:Int) (Blk lt bs l) (bs:Int)=some (S lt l):=by
 intro n
 induction n with
 | zero =>
  intro bs hn h0 hbs;rw[stable.l1,if_neg (by simp;omega),Blk_all l h0 (by omega)]
 | succ n ih =>
  intro bs hn h0 hbs;rw[stable.l1];by_cases hlt:bs<l.length
  ·rw[if_pos (by simp;omega),Z8     (n:=2*(bs:Int)) (by omega) (by omega)]
   obtain⟨D,R,g1,g2,g3,g4⟩:=stb_l2 hc h (l.length:Int) bs h0 _ [] l 0 (2*(bs:Int)) (Nat.le_refl _) (by simp) (by simp) (by simp) (by simp;omega) (by omega);simp only[List.nil_append,List.length_nil,Nat.zero_add] at g1 g2 g4;rw[g1,sb]
   try simp only[]
   rw[Z8 (n:=(D.length:Int)+bs) (by omega) (by omega),Z8 (n:=(bs:Int)*2) (by omega) (by omega)];have hlast:(((if(decide ((D.length:Int)+bs<(l.length:Int)))=true then((symMerge.f cmp (D++Blk lt bs R) D.length (D.length+bs) l.length)>>=fun t4=>some t4) else(some (D++Blk lt bs R))):Option (List α)))=some (Blk lt (2*bs) l):=by
    rw[← g4];by_cases hr:bs<R.length
    ·rw[if_pos (by simp;omega)]
     obtain⟨T,U,rfl,hT⟩:∃ T R',R=T++R'∧T.length=bs:=⟨R.take bs,R.drop bs,by simp,by simp;omega⟩
     simp only[List.length_append] at *;rw[Zc7 T _ h0 hT,Z7i U (by omega)];have:=sym_f hc h _ D (S lt T) (S lt U) [] D.length (D.length+bs) l.length (Nat.le_refl _) (by rw[Z6t];omega) (by rw[Z6t];omega) (Z9x h T) (Z9x h U) rfl (by rw[Z6t];omega) (by rw[Z6t,Z6t];omega) (by rw[Z6t,Z6t];omega);simp only[List.append_nil] at this;rw[← List.append_assoc,this,sb,S_append h]
    ·rw[if_neg (by simp;omega),Blk_all R h0 (by omega)]
   rw[hlast,sb,show(bs:Int)*2=((2*bs:Nat):Int) by omega];exact ih (2*bs) (by omega) (by omega) (by omega)
  ·rw[if_neg (by simp;omega),Blk_all l h0 (by omega)]
theorem sorts (hc:Cmp cmp lt) (h:SWO lt) (l:List α) (hb:l.length<100000000000000):SortStable.f cmp l=some (S lt l):=by
 unfold SortStable.f stable.f;obtain⟨D,R,g1,g2,g3⟩:=stb_l0 hc h (l.length:Int) _ [] l 0 20 (Nat.le_refl _) (by simp) (by simp) rfl (by simp;omega);simp only[List.nil_append,List.length_nil,Nat.zero_add] at g1 g2 g3;rw[g1,sb]
 try simp only[]
 have:=ins_f hc h D R [] (D.length:Int) (l.length:Int) rfl (by omega) (by omega);simp only[List.append_nil] at this;rw[this,sb,g3];have:=stb_l1 hc h l hb _ 20 (Nat.le_refl _) (by omega) (by omega);rw[show(20:Int)=((20:Nat):Int) from rfl,this];rfl
end Run
end Go.Pv.GS
namespace Go.Pv
open Go.Pv.GS
theorem Z7c:∀ {l:List Int},(∀ x∈l,0≤x)→0≤l.sum
 | [],_=>by simp
 | x::l,h=>by
  have h1:=h x (by simp);have h2:=Z7c (l:=l) (fun y hy=>h y (by simp[hy]));rw[List.sum_cons];omega
theorem Z2l {n:Int} (h0:0≤n) (h1:n<18446744073709551616):IntKind.u64.wrap n=n:=by
 simp only[IntKind.wrap,IntKind.signed,IntKind.bits];simp;omega
theorem Z9j (n:Int):IntKind.u64.wrap n=n % 18446744073709551616:=by
 simp only[IntKind.wrap,IntKind.signed,IntKind.bits];simp
theorem Z7m (n:Int):U64 (IntKind.u64.wrap n):=by
 rw[Z9j];constructor<;>omega
theorem Z9q (n:Int):I64 (IntKind.i64.wrap n):=by
 simp only[IntKind.wrap,IntKind.signed,IntKind.bits];simp;constructor<;>omega
theorem Zam (n:Int):IntKind.i64.wrap n=(n+9223372036854775808) % 18446744073709551616-9223372036854775808:=by
 simp only[IntKind.wrap,IntKind.signed,IntKind.bits];simp;omega
theorem Z06 {α:Type} {l pre suf:List α} {x:α} {i:Int} (h:l=pre++x::suf) (hi:i=(pre.length:Int)):at? l i=some x:=by
 subst h;subst hi;unfold at?;rw[if_pos (by omega)];simp
theorem Z4j {α:Type} {l:List α} {x:α} {i:Int} {k:Nat} (hi:i=(k:Int)) (h:l[k]? = some x):at? l i=some x:=by
 subst hi;unfold at?;rw[if_pos (by omega)];simpa using h
theorem at_lt {α:Type} {l:List α} {i:Int} (h0:0≤i) (h:i<(l.length:Int)):at? l i=some (l[i.toNat]'(by omega)):=by
 unfold at?;rw[if_pos h0];simp
theorem Zb8 {α β:Type} {c:Prop} [Decidable c] (x y:Option α) (f:α→Option β):((if c then x else y)>>=f)=if c then x>>=f else y>>=f:=by split<;>rfl
theorem Z9h (a:List UInt8):Op.bytesLess a []=false:=by cases a<;>rfl
theorem Zaj (b:UInt8) (y:List UInt8):Op.bytesLess [] (b::y)=true:=rfl
theorem bl_cons (a b:UInt8) (x y:List UInt8):Op.bytesLess (a::x) (b::y)=(decide (a<b)||(a==b&&Op.bytesLess x y)):=rfl
theorem Zea:∀ a:List UInt8,Op.bytesLess a a=false
 | []=>rfl
 | a::x=>by rw[bl_cons,Zea x];simp[UInt8.lt_irrefl]
theorem bl_tri:∀ a b:List UInt8,Op.bytesLess a b=false→Op.bytesLess b a=false→a=b
 | [],[],_,_=>rfl
 | [],b::y,h,_=>by rw[Zaj] at h;exact absurd h (by simp)
 | a::x,[],_,h=>by rw[Zaj] at h;exact absurd h (by simp)
 | a::x,b::y,h1,h2=>by
  rw[bl_cons,Bool.or_eq_false_iff] at h1 h2;have e:a=b:=by
   have n1:¬ a<b:=by simpa using h1.1
   have n2:¬ b<a:=by simpa using h2.1
   exact UInt8.le_antisymm (UInt8.not_lt.1 n2) (UInt8.not_lt.1 n1)
  subst e;have g1:=h1.2;have g2:=h2.2;simp at g1 g2;rw[bl_tri x y g1 g2]
theorem Z9w:∀ a b c:List UInt8,Op.bytesLess a b=true→Op.bytesLess b c=true→Op.bytesLess a c=true
 | a,[],c,h,_=>by rw[Z9h] at h;exact absurd h (by simp)
 | a,b::y,[],_,h=>by rw[Z9h] at h;exact absurd h (by simp)
 | [],b::y,c::z,_,_=>rfl
 | a::x,b::y,c::z,h1,h2=>by
  rw[bl_cons] at h1 h2 ⊢;simp only[Bool.or_eq_true,decide_eq_true_eq,Bool.and_eq_true,beq_iff_eq] at h1 h2 ⊢;rcases h1 with h1 | ⟨rfl,h1⟩
  ·rcases h2 with h2 | ⟨rfl,h2⟩
   ·exact .inl (UInt8.lt_trans h1 h2)
   ·exact .inl h1
  ·rcases h2 with h2 | ⟨rfl,h2⟩
   ·exact .inl h2
   ·exact .inr ⟨rfl,Z9w x y z h1 h2⟩
theorem Zd4 {a b:List UInt8} (h:Op.bytesLess a b=true):Op.bytesLess b a=false:=by
 cases e:Op.bytesLess b a with
 | false=>rfl
 | true=>have:=Z9w a b a h e;rw[Zea] at this;exact absurd this (by simp)
theorem bl_ntrans {a b c:List UInt8} (h1:Op.bytesLess b a=false) (h2:Op.bytesLess c b=false):Op.bytesLess c a=false:=by
 cases e:Op.bytesLess c a with
 | false=>rfl
 | true =>
  cases e2:Op.bytesLess b c with
  | true=>rw[Z9w b c a e2 e] at h1;exact absurd h1 (by simp)
  | false=>have:=bl_tri b c e2 h2;subst this;rw[e] at h1;exact absurd h1 (by simp)
theorem eqB (a b:ByteArray):(a.toList==b.toList)=decide (a=b):=by
 rw[Bool.eq_iff_iff,beq_iff_eq,decide_eq_true_eq,Z7n,Z7n];exact⟨fun h=>ext_L h,fun h=>by rw[h]⟩
abbrev bl (a b:ByteArray):Bool:=Op.bytesLess a.toList b.toList
theorem bl_tri' {a b:ByteArray} (h1:bl a b=false) (h2:bl b a=false):a=b:=by
 have:=bl_tri _ _ h1 h2;rw[Z7n,Z7n] at this;exact ext_L this
theorem Z60 (a:ByteArray):bl a a=false:=Zea _
end Go.Pv
namespace Go.Pv
open Go
def Za9 (l:List ByteArray):List ByteArray:=((l.map L).mergeSort fun x y=>decide (x≤y)).map fun x=>⟨x.toArray⟩
theorem mk_L (x:ByteArray):(⟨(L x).toArray⟩:ByteArray)=x:=by obtain⟨⟨l⟩⟩:=x;rfl
theorem Z93 (l:List ByteArray):(Za9 l).length=l.length:=by simp[Za9]
theorem Zci:∀ x y:List UInt8,Op.bytesLess x y=decide (x<y)
 | [],[]=>rfl
 | [],b::y=>by simp[Zaj]
 | a::x,[]=>by simp[Z9h]
 | a::x,b::y=>by
  rw[bl_cons,Zci x y];by_cases h:a<b
  ·simp[h,List.cons_lt_cons_iff]
  ·by_cases h2:a=b
   ·subst h2;simp[List.cons_lt_cons_iff,UInt8.lt_irrefl]
   ·simp[h,h2,List.cons_lt_cons_iff]
theorem le_bl (x y:List UInt8):decide (x≤y) = !Op.bytesLess y x:=by
 rw[Zci];rw[← decide_not];rfl
theorem sortB_perm (l:List ByteArray):(Za9 l).Perm l:=by
 have h:=(List.mergeSort_perm (l.map L) (fun x y=>decide (x≤y))).map fun x=>(⟨x.toArray⟩:ByteArray)
 rw[List.map_map] at h;have e:l.map ((fun x=>(⟨x.toArray⟩:ByteArray)) ∘ L)=l:=by
  rw[show((fun x=>(⟨x.toArray⟩:ByteArray)) ∘ L)=id from funext mk_L,List.map_id]
 rw[e] at h;exact h
theorem sortB_up (l:List ByteArray):(Za9 l).Pairwise (fun a b=>bl b a=false):=by
 have h:=List.pairwise_mergeSort (le:=fun(x y:List UInt8)=>decide (x≤y)) (fun a b c h1 h2=>by
  simp only[le_bl,Bool.not_eq_true'] at *;exact bl_ntrans h1 h2) (fun a b=>by
  simp only[le_bl];cases h:Op.bytesLess b a with
  | false=>simp
  | true=>rw[Zd4 h];rfl) (l.map L)
 unfold Za9;rw[List.pairwise_map];refine h.imp fun {a b} hab => ?_;simp only[le_bl,Bool.not_eq_true'] at hab;show Op.bytesLess (ByteArray.toList ⟨b.toArray⟩) (ByteArray.toList ⟨a.toArray⟩)=false;rw[Z7n,Z7n];exact hab
theorem Fn.sortStr {P:Program} {f:FuncId} {el:TypeId} (h:∀ (blk off cap:Nat) (ss:List (List UInt8)) (w:World),Sort.Holds Proofs.encStr w blk off ss.toArray→blk<w.heap.size→ss.length<4611686018427387904→Calls P f #[.slice (some ⟨blk,off,none⟩) ss.length cap] w fun e w' =>
   e = .returned (.tuple #[])∧∃ n os,w'=Sort.grow (Sort.putRow Proofs.encStr (Sort.ahead w n) blk off (ss.mergeSort fun x y=>decide (x≤y)).toArray) os) (h0:∀ (p:Option Addr) (cap:Nat) (w:World),Calls P f #[.slice p 0 cap] w fun e w'=>e = .returned (.tuple #[])∧w'=w) (a0:List ByteArray) (hl:a0.length<4611686018427387904) :
  Fn P f [.own 0] [(0,some (.row 1 el (a0.map encStr)))] 1 (fun x o=>x = .tup []∧o=[(0,some (.row 1 el ((Za9 a0).map encStr)))]):=by
 intro κ I w vs hvl hreps hg hinv;have hob:∀ l k,(⟨[],[(0,some (.row 1 el l))],1⟩:Z1).obj k=if 0=k then some (.row 1 el l) else none:=fun l k=>by
  show(look [(0,some (MObj.row 1 el l))] k).getD none=_;rw[Z1m];by_cases e:0=k
  ·rw[if_pos e,if_pos e];rfl
  ·rw[if_neg e,if_neg e];rfl
 have h0r:=hreps 0 (by simp) (by rw[hvl];simp);obtain⟨v,rfl⟩:∃ v,vs=[v]:=by
  match vs,hvl with
  | [v],_=>exact⟨v,rfl⟩
 replace h0r:Rep w I κ (.own 0) v:=h0r;have hrow:=hinv.objs 0 _ (by rw[hob];rfl);have same:∀ (s:Value),a0=[]→Calls P f #[.slice (match s with | .slice p _ _=>p | _=>none) 0 (match s with | .slice _ _ c=>c | _=>0)] w fun e w'=>∃ v r objs' κ' I',e = .returned v∧(r = .tup []∧objs'=[(0,some (.row 1 el ((Za9 a0).map encStr)))])∧Rep w' I' κ' r v∧Inv (Z8p P 0 κ I ⟨[],[(0,some (.row 1 el (a0.map encStr)))],1⟩ w hg) κ' I' ⟨[],objs',1⟩ w':=fun s he=>by
  refine(h0 _ _ w).mono ?_;rintro e w' ⟨rfl,rfl⟩;subst he;rw[show Za9 []=[] by simp[Za9]];exact⟨_,_,_,κ,I,rfl,⟨rfl,rfl⟩,.tup (vs:=[]) rfl (fun j h=>absurd h (Nat.not_lt_zero _)),hinv⟩
 unfold OAt at hrow;cases hk:κ 0 with
 | none =>
  rw[hk] at hrow;obtain⟨sz,el',he⟩:=hrow;have hz:a0=[]:=by
   simp only[MObj.row.injEq] at he;exact List.map_eq_nil_iff.1 he.2.2
  cases h0r with
  | own0 base e=>exact same (.slice base 0 0) hz
  | own e=>rw[hk] at e;cases e
 | some ki =>
  rw[hk] at hrow;cases h0r with
  | own0 base e=>rw[hk] at e;cases e
  | own e =>
   rw[hk] at e;obtain rfl:=Option.some.inj e;obtain⟨q1,q2,q3,arr,q4,q5,q6⟩:=hrow;have hn:ki.len=a0.length:=by rw[q2];simp
   have hgt:∀ j (hj:j<a0.length),arr[j]? = some (.string (a0[j])):=fun j hj=>by
    obtain⟨r1,r2⟩:=q6 j (by simpa using hj);obtain⟨v,g1,g2⟩:=r2 0 (by simp);rw[Nat.mul_one,Nat.add_zero] at g1;rw[g1];have:((a0.map encStr)[j]'(by simpa using hj))[0]'(by simp) = .sc (.string (a0[j])):=by simp
    rw[this] at g2;cases g2;rfl
   have hb:ki.b<w.heap.size:=(Array.getElem?_eq_some_iff.1 q4).1;have hH:Sort.Holds Proofs.encStr w ki.b 0 (a0.map L).toArray:=fun j hj=>by
    have hj':j<a0.length:=by simpa using hj
    refine⟨?_,by simp[World.frozen?,q4]⟩;simp only[World.cell?,q4,Nat.zero_add,Option.isSome_none,Bool.false_eq_true,if_false];rw[hgt j hj'];simp[Proofs.encStr,hj',mk_L]
   have hc:=h ki.b 0 ki.cap (a0.map L) w hH hb (by simpa using hl);rw[List.length_map,← hn] at hc;refine hc.mono ?_;rintro e w' ⟨rfl,n,os,rfl⟩;have hself:(Sort.grow (Sort.putRow Proofs.encStr (Sort.ahead w n) ki.b 0 ((a0.map L).mergeSort fun x y=>decide (x≤y)).toArray) os).heap[ki.b]? = some (.cells (Sort.putCells Proofs.encStr 0 ((a0.map L).mergeSort fun x y=>decide (x≤y)).toArray arr) el (0,0)):=heap_sorted _ q4;have hgb:=grownBy_sorted (w:=w) (g:=ki.b) (n:=n) (os:=os) (((a0.map L).mergeSort fun x y=>decide (x≤y)).toArray);generalize hw':Sort.grow (Sort.putRow Proofs.encStr (Sort.ahead w n) ki.b 0 ((a0.map L).mergeSort fun x y=>decide (x≤y)).toArray) os=w' at *;obtain⟨g1,g2,g3,g4,g5⟩:=hgb;have hnI:¬ I ki.b:=hinv.disj 0 _ ki (by rw[hob];rfl) hk;have hI:∀ b,I b→w'.heap[b]? = w.heap[b]? := fun b hb'=>g5 b (hinv.bound b hb') (fun e=>hnI (by cases e;exact hb'))
   refine⟨_,_,_,κ,I,rfl,⟨rfl,rfl⟩,.tup (vs:=[]) rfl (fun j h=>absurd h (Nat.not_lt_zero _)),?_⟩;refine⟨fun k o hko => ?_,fun k k' o o' ki1 ki2 h1 h2 => ?_,fun k o ki1 h1 h2 => ?_,fun b hb'=>Nat.lt_of_lt_of_le (hinv.bound b hb') g4,⟨g1,g2,g3,g4,fun b hb' hM=>g5 b hb' (fun e=>hM ?_)⟩,fun _ h=>h,fun b h=>.inl h,fun k o ki1 h1 h2 => ?_,hinv.fix⟩
   ·rw[hob] at hko
    by_cases e0:0=k
    ·rw[if_pos e0] at hko
     subst e0;obtain rfl:=Option.some.inj hko;unfold OAt;rw[hk];refine⟨q1,by rw[q2];simp[Z93],by simpa[Z93] using q3,_,hself,by simpa[Sort.putCells] using q5,fun i hi=>⟨by simp[q1],fun j hj => ?_⟩⟩;have hi':i<a0.length:=by simpa[Z93] using hi
     have hj0:j=0:=by simpa using hj
     subst hj0;refine⟨.string ((Za9 a0)[i]'(by rw[Z93];exact hi')),?_,?_⟩
     ·have hsz:i<arr.size:=by
       have:=hgt i hi';exact(Array.getElem?_eq_some_iff.1 this).1
      rw[Nat.mul_one,Nat.add_zero];simp only[Sort.putCells,Array.getElem?_mapIdx,hgt i hi',Option.map_some,Nat.zero_add,Nat.sub_zero,Nat.zero_le,true_and,List.size_toArray,List.length_mergeSort,List.length_map,hi',if_true];congr 1;simp[Proofs.encStr,hi',Za9]
     ·have:(((Za9   a0).map encStr)[i]'hi)[0]'(by simp) = .sc (.string ((Za9   a0)[i]'(by rw[Z93      ];exact hi'))):=by simp
      rw[this];exact .sc _
    ·rw[if_neg e0] at hko;cases hko
   ·rw[hob] at h1 h2
    by_cases e1:0=k
    ·by_cases e2:0=k'
     ·intro _ _ _;omega
     ·rw[if_neg e2] at h2;cases h2
    ·rw[if_neg e1] at h1;cases h1
   ·rw[hob] at h1
    by_cases e1:0=k
    ·subst e1;rw[hk] at h2;cases h2;exact hnI
    ·rw[if_neg e1] at h1;cases h1
   ·cases e;exact⟨0,_,ki,by rw[hob];rfl,hk,rfl⟩
   ·rw[hob] at h1
    by_cases e1:0=k
    ·subst e1;rw[hk] at h2;cases h2
     exact .inl ⟨0,_,ki,by rw[hob];rfl,hk,rfl⟩
    ·rw[if_neg e1] at h1;cases h1
end Go.Pv
namespace Go.Pv
theorem OpOK.frozenG {P:Program} {o:Oper} {s:Z1} {keys news ids:List Nat} {res:AVal} {post:List (Nat×Option MObj)} {k sz el:Nat} {es:List (List Im)} (h:OpOK P o (mkSp s o keys news res post)) (hk:look post k=some (some (.row sz el es))):OpOK P o (mkSp s o keys news (pass (ids.map fun q=>(q,q)) [(k,es)] res) ((k,none)::post)):=by
 intro Γ hP hd s2 a w hs hn hf K Q hK;refine h Γ hP hd s2 a w hs hn hf K Q (fun a' w' hs'=>hK a' w' ?_);obtain⟨κ,I,hr⟩:=hs';have hact:∀ (res:AVal) (post:List (Nat×Option MObj)) (q:Nat),((mkSp s o keys news res post).act o.dst s2).obj q=(s2.objput post).obj q:=fun res post q=>Z1.obj_put _ _ _ _
 have hobjk:((mkSp s o keys news res post).act o.dst s2).obj k=some (.row sz el es):=by
  rw[hact];show(look (post++s2.objs) k).getD none=_;rw[Z5q,hk];rfl
 have hO:=hr.inv.objs k _ hobjk
 let I':Nat→Prop:=fun b=>I b∨∃ ki,κ k=some ki∧ki.b=b
 have hI:∀ b,I b→I' b:=fun b h=>.inl h
 have hold:∀ k' q,((mkSp s o keys news (pass (ids.map fun q=>(q,q)) [(k,es)] res) ((k,none)::post)).act o.dst s2).obj k'=some q→k'≠k∧((mkSp s o keys news res post).act o.dst s2).obj k'=some q:=by
  intro k' q hq;rw[hact] at hq ⊢;change (look ((k,none)::(post++s2.objs)) k').getD none=_ at hq;change _∧(look (post++s2.objs) k').getD none=_;rw[Z1m] at hq;by_cases e:k=k'
  ·rw[if_pos e] at hq;simp at hq
  ·rw[if_neg e] at hq;exact⟨fun h=>e h.symm,hq⟩
 have hnot:∀ k' q ki ki',k'≠k→((mkSp s o keys news res post).act o.dst s2).obj k'=some q→κ k'=some ki'→κ k=some ki→ki'.b≠ki.b:=by
  intro k' q ki ki' hne hq e1 e2 hb;exact hne (hr.inv.inj k' k q _ ki' ki hq hobjk e1 e2 hb)
 refine⟨κ,I',hr.size,hr.defers,fun x => ?_,?_,?_,?_,?_,hr.inv.keep,fun b h=>.inl (hr.inv.ikeep b h),?_,?_,?_⟩
 ·have g:=hr.slots x
  revert g;simp only[Sp.act,mkSp];cases o.dst with
  | none=>exact fun g=>g.mono hI (fun _ _=>rfl) (fun _ _=>rfl)
  | some d =>
   rw[Z1.get_put,Z1.get_put];by_cases e:d=x
   ·rw[if_pos e,if_pos e]
    intro g;exact Z3l (I':=I') (κc:=κ) (inv:=ids.map fun q=>(q,q)) (views:=[(k,es)]) hI (by
     intro a b h;obtain⟨p,hp,e⟩:=List.mem_map.1 (Z1x h);simp at e;obtain⟨rfl,rfl⟩:=e;rfl) (fun k' es' h=>by
     rw[Z1m] at h;split at h
     ·rename_i e';subst e';simp at h;subst h
      exact⟨⟨sz,el,hO⟩,fun ki e=>.inr ⟨ki,e,rfl⟩⟩
     ·simp[look] at h) g
   ·rw[if_neg e,if_neg e]
    exact fun g=>g.mono hI (fun _ _=>rfl) (fun _ _=>rfl)
 ·intro k' q hq
  obtain⟨hne,hq⟩:=hold k' q hq;have:=hr.inv.objs k' q hq;unfold OAt at this ⊢;cases e:κ k' with
  | none=>rw[e] at this;exact this
  | some ki=>rw[e] at this;exact this.mono hI (fun _ _=>rfl) rfl (fun _ _=>rfl)
 ·intro q1 q2 o1 o2 ki1 ki2 h1 h2 f1 f2 hb
  exact hr.inv.inj q1 q2 o1 o2 ki1 ki2 (hold q1 o1 h1).2 (hold q2 o2 h2).2 f1 f2 hb
 ·intro q o' ki hq f hIb
  obtain⟨hne,hq⟩:=hold q o' hq;rcases hIb with hIb | ⟨ki',e1,e2⟩
  ·exact hr.inv.disj q o' ki hq f hIb
  ·exact hnot q o' ki' ki hne hq f e1 e2.symm
 ·intro b hIb
  rcases hIb with hIb | ⟨ki,e1,rfl⟩
  ·exact hr.inv.bound b hIb
  ·have:=hO
   simp only[OAt,e1] at this;obtain⟨_,_,_,arr,h3,_⟩:=this;exact(Array.getElem?_eq_some_iff.1 h3).1
 ·intro b hIb
  rcases hIb with hIb | ⟨ki,e1,rfl⟩
  ·exact hr.inv.fromI b hIb
  ·rcases hr.inv.fromO k _ ki hobjk e1 with h | h
   ·exact .inr (.inl h)
   ·exact .inr (.inr h)
 ·intro q o' ki hq f
  exact hr.inv.fromO q o' ki (hold q o' hq).2 f
 ·intro q hq
  refine hr.inv.fix q ?_;have e1:((mkSp s o keys news (pass (ids.map fun q=>(q,q)) [(k,es)] res) ((k,none)::post)).act o.dst s2).floor=s2.floor:=by cases o.dst<;>rfl
  have e2:((mkSp s o keys news res post).act o.dst s2).floor=s2.floor:=by cases o.dst<;>rfl
  rw[e1] at hq;rw[e2];exact hq
def xFzG (k:Nat) (ids:List Nat) (h:Hint):Ext where
 f P o s:=match autoOp P h o s with
  | some e=>match look e.post k with
   | some (some (.row sz el es))=>some ⟨e.keys,e.news,pass (ids.map fun q=>(q,q)) [(k,es)] e.res,(k,none)::e.post,e.props⟩
   | _=>none
  | none=>none
 ok P o s e he hp:=by
  split at he
  ·rename_i e0 h0
   split at he
   ·rename_i sz el es hl
    obtain rfl:=Option.some.inj he;exact(Zed h0 hp).frozenG hl
   ·simp at he
  ·simp at he
end Go.Pv
