import Derived.Test.YtlkonkfkapdimaaGreatDoorPxFeedParts11
set_option linter.unusedVariables false
set_option linter.unusedSimpArgs false
namespace Go.Proofs.YtlkonkfkapdimaaGreatDoor.PvGR
open Go Go.Pv Go.Pv.GS Go.IntKind
theorem light_ex (l:List Zp) (hl:l.length<10000000000000):∀ (m:Nat) (n i:Int),i=((l.length-m:Nat):Int)→m≤l.length→∃ r,Z0z.l0 l n i=some r:=by
 intro m
 induction m with
 | zero=>intro n i hi hm;rw[Z0z.l0,if_neg (by simp;omega)];exact⟨n,rfl⟩
 | succ m ih =>
  intro n i hi hm;rw[Z0z.l0,if_pos (by simp;omega),at_nat (k:=l.length-(m+1)) hi (List.getElem?_eq_getElem (by omega)),sb,Ze (n:=i+1) (by omega) (by omega)];exact ih _ _ (by omega) (by omega)
theorem light10 (l:List Zp) (hl:l.length<10000000000000):∃ b,Z0z.f l=some b:=by
 unfold Z0z.f;obtain⟨r,e⟩:=light_ex l hl l.length 0 0 (by omega) (by omega);rw[e,sb];exact⟨_,rfl⟩
def Z5w (l:List Zp):Prop:=(∀ x∈l,nameB x.f0=true∧valB x.f1=true)∧l.Pairwise (fun a b=>nLt a b=true)
theorem Z7c:∀ (l:List Zp) (q:ByteArray),Z3a (some q) l=true↔Z5w l∧∀ x∈l,bl q x.f0=true
 | [],q=>by simp[Z3a,Z5w]
 | x::l,q=>by
  have ih:=Z7c l x.f0;rw[Z4f];simp only[Bool.and_eq_true,ih];unfold Z5w;simp only[List.mem_cons,forall_eq_or_imp,List.pairwise_cons];constructor
  ·rintro⟨h1,h2,h3,⟨h4,h5⟩,h6⟩
   exact⟨⟨⟨⟨h1,h2⟩,h4⟩,h6,h5⟩,h3,fun y hy=>bl_trans _ _ _ h3 (h6 y hy)⟩
  ·rintro⟨⟨⟨⟨h1,h2⟩,h4⟩,h6,h5⟩,h3,h7⟩
   exact⟨h1,h2,h3,⟨h4,h5⟩,h6⟩
theorem rising_none (l:List Zp):Z3a none l=true↔Z5w l:=by
 cases l with
 | nil=>simp[Z3a,Z5w]
 | cons x l =>
  rw[Z4f];simp only[Bool.and_eq_true,Z7c];unfold Z5w;simp only[List.mem_cons,forall_eq_or_imp,List.pairwise_cons];constructor
  ·rintro⟨h1,h2,_,⟨h4,h5⟩,h6⟩
   exact⟨⟨⟨h1,h2⟩,h4⟩,h6,h5⟩
  ·rintro⟨⟨⟨h1,h2⟩,h4⟩,h6,h5⟩
   exact⟨h1,h2,trivial,⟨h4,h5⟩,h6⟩
theorem Z4m {l:List Zp} (h:chkC l=0):l.length≤16∧Z5w l:=by
 unfold chkC at h;by_cases q:l.length>16
 ·rw[if_pos q] at h;omega
 ·rw[if_neg q] at h
  by_cases q2:Z3a none l=true
  ·exact⟨by omega,(rising_none l).1 q2⟩
  ·rw[if_neg q2] at h;omega
def Short (x:Zp):Prop:=x.f0.size≤64∧x.f1.size≤64
theorem Z55 {l:List Zp} (h:Z5w l):∀ x∈l,Short x:=fun x hx=>by
 have:=h.1 x hx;simp only[nameB,valB,Bool.and_eq_true,decide_eq_true_eq] at this;exact⟨this.1.1.2,this.2.2⟩
end Go.Proofs.YtlkonkfkapdimaaGreatDoor.PvGR
namespace Go.Proofs.YtlkonkfkapdimaaGreatDoor.PvGR
open Go Go.Pv Go.IntKind
def esc (c:UInt8):List UInt8:=if c=10 then [92,110] else if c=34∨c=92 then [92,c] else [c]
def body (l:List UInt8):List UInt8:=l.flatMap esc
theorem Z3j (c:UInt8) (l:List UInt8):body (c::l)=esc c++body l:=by simp[body]
theorem esc_le (c:UInt8):(esc c).length≤2:=by unfold esc;split<;>(try split)<;>simp
theorem Z69:∀ l:List UInt8,(body l).length≤2*l.length
 | []=>by simp[body]
 | c::l=>by rw[Z3j,List.length_append,List.length_cons];have:=esc_le c;have:=Z69 l;omega
theorem Z83 {c:UInt8} {n:Nat} (hn:n<256):(((c.toNat:Int)==(n:Int))=true)↔c=UInt8.ofNat n:=by
 constructor
 ·intro h
  have h':(c.toNat:Int)=(n:Int):=by simpa using h
  apply UInt8.toNat_inj.1;simp;omega
 ·rintro rfl
  simp;omega
theorem wb2 {x:List Int} {c:Int} (h:x.length+1≤100000):Zh.f x c=some (x++[c]):=by
 unfold Zh.f Zj.f;rw[sb,chkB (by simp;omega)]
theorem ws {x:List Int} {s:ByteArray} (h:x.length+s.size≤100000):Z9.f x s=some (x++Z0m s):=by
 unfold Z9.f Zj.f;rw[sb,chkB (by omega)]
theorem quote_loop (s:ByteArray) (hs:s.size≤1000):∀ (n i:Nat) (x:List Int),i+n=s.size→x.length+2*n≤10000 →
  Z0h.l0 s x (i:Int)=some (x++ints (body ((L s).drop i))):=by
 intro n
 induction n with
 | zero =>
  intro i x h hx;rw[Z0h.l0];have hd:(L s).drop i=[]:=List.drop_eq_nil_of_le (by rw[Zz];omega);rw[if_neg (by simp;omega),hd];simp[body,ints]
 | succ n ih =>
  intro i x h hx;rw[Z0h.l0];have hi:i<(L s).length:=by rw[Zz];omega
  have hbt:bt s (i:Int)=(((L s)[i]).toNat:Int):=bt_L (List.getElem?_eq_getElem hi);have hw:i64.wrap ((i:Int)+1)=((i+1:Nat):Int):=by rw[Ze (by omega) (by omega)];omega
  rw[if_pos (by simp;omega),chkB (by omega),Z3y hi,Z3j,hbt,hw];generalize (L s)[i]=c;by_cases h10:c=10
  ·subst h10
   rw[if_pos (by decide),ws (by show x.length+2≤_;omega),sb];show(_>>=_)=_;simp only[sb];rw[ih (i+1) _ (by omega) (by rw[List.length_append];show x.length+2+_≤_;omega)];simp[esc,ints,Z0m]
  ·have n10:¬ (((c.toNat:Int)==(10:Int))=true):=fun h=>h10 ((Z83   (n:=10) (by omega)).1 h)
   rw[if_neg n10];by_cases h34:c=34∨c=92
   ·have hb:((if(((c.toNat:Int))==(34:Int))=true then(some (((c.toNat:Int))==(34:Int))) else(some (((c.toNat:Int))==(92:Int)))):Option Bool)=some true:=by
     rcases h34 with rfl | rfl<;>decide
    rw[hb,sb,if_pos rfl,wb2 (by omega),sb];simp only[sb];rw[wb2 (by simp;omega)];simp only[sb];rw[ih (i+1) _ (by omega) (by simp;omega)];have he:esc c=[92,c]:=by unfold esc;rw[if_neg h10,if_pos h34]
    rw[he];simp[ints]
   ·have hb:((if(((c.toNat:Int))==(34:Int))=true then(some (((c.toNat:Int))==(34:Int))) else(some (((c.toNat:Int))==(92:Int)))):Option Bool)=some false:=by
     have a1:¬ (((c.toNat:Int)==(34:Int))=true):=fun h=>h34 (.inl ((Z83 (n:=34) (by omega)).1 h));have a2:¬ (((c.toNat:Int)==(92:Int))=true):=fun h=>h34 (.inr ((Z83 (n:=92) (by omega)).1 h));rw[if_neg a1];simp only[Bool.not_eq_true] at a2;rw[a2]
    rw[hb,sb,if_neg (by simp),sb];simp only;rw[wb2 (by omega)];simp only[sb];rw[ih (i+1) _ (by omega) (by simp;omega)];have he:esc c=[c]:=by unfold esc;rw[if_neg h10,if_neg h34]
    rw[he];simp[ints]
theorem quote_eq (s:ByteArray) (hs:s.size≤1000):Z0h.f s=some ⟨(34::body (L s)++[34]).toArray⟩:=by
 unfold Z0h.f;have h1:Z08.f 34=some [34]:=by cbv
 have h2:=quote_loop s hs s.size 0 [34] (by omega) (by simp;omega);have hb:=Z69 (L s);rw[Zz] at hb;have e:([34]++ints (body ((L s).drop 0)))++[34]=ints (34::body (L s)++[34]):=by simp[ints]
 rw[h1,sb,show(0:Int)=((0:Nat):Int) from rfl,h2,sb,wb2 (by simp[ints];omega),sb,e];have h3:Zd.f (ints (34::body (L s)++[34]))=some ():=by
  unfold Zd.f;rw[chkB (by simp[ints]),chkB ⟨by simp[ints],by simp[ints];omega,Z4o _⟩]
 rw[h3,sb,Z3v]
theorem if34 {c:UInt8} {b:Bool} (hb:b=decide (c=34∨c=92)):((if(((c.toNat:Int))==(34:Int))=true then(some true) else(some (((c.toNat:Int))==(92:Int)))):Option Bool)=some b:=by
 subst hb;by_cases h:c=34
 ·subst h;decide
 ·have n34:¬ (((c.toNat:Int)==(34:Int))=true):=fun h'=>h ((Z83   (n:=34) (by omega)).1 h')
  rw[if_neg n34];by_cases h2:c=92
  ·subst h2;decide
  ·have:¬ (((c.toNat:Int)==(92:Int))=true):=fun h'=>h2 ((Z83   (n:=92) (by omega)).1 h')
   simp only[Bool.not_eq_true] at this;rw[this];simp[h,h2]
theorem ref_loop (s:ByteArray) (hs:s.size≤1000):∀ (n i:Nat) (x:ByteArray),i+n=s.size→x.size+2*n≤10000 →
  ∃ r,Z12.l0 s x (i:Int)=some r∧L r=L x++body ((L s).drop i):=by
 intro n
 induction n with
 | zero =>
  intro i x h hx;rw[Z12.l0];have hd:(L s).drop i=[]:=List.drop_eq_nil_of_le (by rw[Zz];omega);rw[if_neg (by simp;omega),hd];exact⟨x,rfl,by simp[body]⟩
 | succ n ih =>
  intro i x h hx;rw[Z12.l0];have hi:i<(L s).length:=by rw[Zz];omega
  have hbt:bt s (i:Int)=(((L s)[i]).toNat:Int):=bt_L (List.getElem?_eq_getElem hi);have hw:i64.wrap ((i:Int)+1)=((i+1:Nat):Int):=by rw[Ze (by omega) (by omega)];omega
  have hex:L (s.extract (Int.toNat (i:Int)) (Int.toNat ((i+1:Nat):Int)))=[(L s)[i]]:=by
   rw[Z18];simp only[Int.toNat_natCast];rw[Z3y hi];simp
  have hexs:(s.extract (Int.toNat (i:Int)) (Int.toNat ((i+1:Nat):Int))).size=1:=by rw[← Zz,hex];rfl
  rw[if_pos (by simp;omega),chkB (by omega),Z3y hi,Z3j,hbt,hw];generalize s.extract (Int.toNat (i:Int)) (Int.toNat ((i+1:Nat):Int))=ex at hex hexs;generalize (L s)[i]=c at *;by_cases h10:c=10
  ·subst h10
   rw[if_pos (by decide),chkB (by have:(⟨#[92,110]⟩:ByteArray).size=2:=rfl;rw[this];omega)];simp only[sb];obtain⟨r,h1,h2⟩:=ih (i+1) (x++⟨#[92,110]⟩) (by omega) (by rw[ByteArray.size_append];show x.size+2+_≤_;omega);exact⟨r,h1,by rw[h2,Z1h];simp[esc,L_mk]⟩
  ·have n10:¬ (((c.toNat:Int)==(10:Int))=true):=fun h=>h10 ((Z83   (n:=10) (by omega)).1 h)
   rw[if_neg n10];by_cases h34:c=34∨c=92
   ·rw[if34 (b:=true) (by simp[h34]),sb,if_pos rfl,chkB (by have:(⟨#[92]⟩:ByteArray).size=1:=rfl;rw[this];omega)]
    simp only[sb];have hsz:(x++(⟨#[92]⟩:ByteArray)).size=x.size+1:=by rw[ByteArray.size_append];rfl
    rw[chkB (by omega),chkB (by rw[hsz,hexs];omega)];simp only[sb];obtain⟨r,h1,h2⟩:=ih (i+1) (x++⟨#[92]⟩++ex) (by omega) (by rw[ByteArray.size_append,hsz,hexs];omega);refine⟨r,h1,?_⟩;have he:esc c=[92,c]:=by unfold esc;rw[if_neg h10,if_pos h34]
    rw[h2,Z1h,Z1h,hex,he];simp[L_mk]
   ·rw[if34 (b:=false) (by simp[h34]),sb,if_neg (by simp)]
    simp only[sb];rw[chkB (by omega),chkB (by rw[hexs];omega)];simp only[sb];obtain⟨r,h1,h2⟩:=ih (i+1) (x++ex) (by omega) (by rw[ByteArray.size_append,hexs];omega);refine⟨r,h1,?_⟩;have he:esc c=[c]:=by unfold esc;rw[if_neg h10,if_neg h34]
    rw[h2,Z1h,hex,he];simp
theorem ref_eq (s:ByteArray) (hs:s.size≤1000):Z12.f s=some ⟨(34::body (L s)++[34]).toArray⟩:=by
 unfold Z12.f;obtain⟨r,h1,h2⟩:=ref_loop s hs s.size 0 ⟨#[34]⟩ (by omega) (by show 1+_≤_;omega);have hb:=Z69 (L s);rw[Zz] at hb;have hr:r.size=1+(body (L s)).length:=by rw[← Zz,h2];simp
 rw[show(0:Int)=((0:Nat):Int) from rfl,h1,sb,chkB (by have:(⟨#[34]⟩:ByteArray).size=1:=rfl;rw[hr,this];omega)];congr 1;apply Z3s;rw[Z1h,h2];simp[L_mk]
def U:List UInt8→List UInt8→Option (List UInt8×List UInt8)
 | [],_=>none
 | c::r,acc=>if c=34 then some (acc,r) else if c=10 then none else if c≠92 then U r (acc++[c]) else
  match r with
  | []=>none
  | d::r=>if d=110 then U r (acc++[10]) else if d=34∨d=92 then U r (acc++[d]) else none
theorem U_34 (r acc:List UInt8):U (34::r) acc=some (acc,r):=by rw[U.eq_def];simp
theorem U_10 (r acc:List UInt8):U (10::r) acc=none:=by rw[U.eq_def];simp
theorem U_c {c:UInt8} (h1:c≠34) (h2:c≠10) (h3:c≠92) (r acc:List UInt8):U (c::r) acc=U r (acc++[c]):=by rw[U.eq_def];simp[h1,h2,h3]
theorem U_92 (acc:List UInt8):U [92] acc=none:=by rw[U.eq_def];simp
theorem U_92n (r acc:List UInt8):U (92::110::r) acc=U r (acc++[10]):=by rw[U.eq_def];simp
theorem U_92c {d:UInt8} (h:d=34∨d=92) (r acc:List UInt8):U (92::d::r) acc=U r (acc++[d]):=by
 rw[U.eq_def];have:d≠110:=by rintro rfl;revert h;decide
 simp[this,h]
theorem U_92x {d:UInt8} (h0:d≠110) (h:¬ (d=34∨d=92)) (r acc:List UInt8):U (92::d::r) acc=none:=by
 rw[U.eq_def];simp[h0,h]
theorem U_body:∀ (l acc m:List UInt8),U (body l++34::m) acc=some (acc++l,m):=by
 intro l
 induction l with
 | nil=>intro acc m;show U (34::m) acc=_;rw[U_34];simp
 | cons c l ih =>
  intro acc m;rw[Z3j,List.append_assoc];unfold esc;split
  ·rename_i h;subst h
   simp only[List.cons_append,List.nil_append];rw[U_92n,ih];simp
  ·split
   ·rename_i h10 h
    simp only[List.cons_append,List.nil_append];rw[U_92c h,ih];simp
   ·rename_i h10 h
    simp only[List.cons_append,List.nil_append];rw[U_c (fun e=>h (.inl e)) h10 (fun e=>h (.inr e)),ih];simp
theorem U_back:∀ (n:Nat) (l acc t m:List UInt8),l.length≤n→U l acc=some (t,m)→∃ u,t=acc++u∧l=body u++34::m:=by
 intro n
 induction n with
 | zero =>
  intro l acc t m hn h;obtain rfl:l=[]:=List.length_eq_zero_iff.1 (by omega);simp[U] at h
 | succ n ih =>
  intro l acc t m hn h;cases l with
  | nil=>simp[U] at h
  | cons c r =>
   simp only[List.length_cons] at hn;by_cases h34:c=34
   ·subst h34;rw[U_34] at h;simp at h;obtain⟨rfl,rfl⟩:=h;exact⟨[],by simp,by simp[body]⟩
   by_cases h10:c=10
   ·subst h10;rw[U_10] at h;simp at h
   by_cases h92:c=92
   ·subst h92
    cases r with
    | nil=>rw[U_92] at h;simp at h
    | cons d r =>
     simp only[List.length_cons] at hn;by_cases h110:d=110
     ·subst h110
      rw[U_92n] at h;obtain⟨u,e1,e2⟩:=ih r _ t m (by omega) h;exact⟨10::u,by rw[e1];simp,by rw[Z3j,e2];simp[esc]⟩
     by_cases hd:d=34∨d=92
     ·rw[U_92c hd] at h
      obtain⟨u,e1,e2⟩:=ih r _ t m (by omega) h;have hd10:d≠10:=by rintro rfl;revert hd;decide
      have he:esc d=[92,d]:=by unfold esc;rw[if_neg hd10,if_pos hd]
      exact⟨d::u,by rw[e1];simp,by rw[Z3j,e2,he];simp⟩
     ·rw[U_92x h110 hd] at h;simp at h
   ·rw[U_c h34 h10 h92] at h
    obtain⟨u,e1,e2⟩:=ih r _ t m (by omega) h;have he:esc c=[c]:=by unfold esc;rw[if_neg h10,if_neg (fun h=>h.elim h34 h92)]
    exact⟨c::u,by rw[e1];simp,by rw[Z3j,e2,he];simp⟩
theorem neq_u8 {c:UInt8} {n:Nat} (hn:n<256) (h:c≠UInt8.ofNat n):((c.toNat:Int)==(n:Int))=false:=by
 cases e:((c.toNat:Int)==(n:Int)) with
 | false=>rfl
 | true=>exact absurd ((Z83 hn).1 e) h
def got (s:ByteArray):Option (List UInt8×List UInt8)→(ByteArray×ByteArray×Bool) ⊕ Unit→Prop
 | some (t,m),.inl (a,b,ok)=>L a=t∧L b=m∧ok=true
 | none,.inl (a,b,ok)=>L a=[]∧L b=[]∧ok=false
 | none,.inr _=>True
 | some _,.inr _=>False
theorem unq_loop (s:ByteArray) (hs:s.size≤10000):∀ (n i:Nat) (acc:List UInt8),s.size-i≤n→acc.length≤10000+i →
  ∃ o,Zw.l0 s (ints acc) (i:Int)=some o∧got s (U ((L s).drop i) acc) o:=by
 intro n
 induction n with
 | zero =>
  intro i acc h hx;rw[Zw.l0];have hd:(L s).drop i=[]:=List.drop_eq_nil_of_le (by rw[Zz];omega);rw[if_neg (by simp;omega),hd];exact⟨_,rfl,by simp[U,got]⟩
 | succ n ih =>
  intro i acc h hx;by_cases hlt:i<s.size
  case neg =>
   rw[Zw.l0];have hd:(L s).drop i=[]:=List.drop_eq_nil_of_le (by rw[Zz];omega);rw[if_neg (by simp;omega),hd];exact⟨_,rfl,by simp[U,got]⟩
  rw[Zw.l0];have hi:i<(L s).length:=by rw[Zz];omega
  have hbt:bt s (i:Int)=(((L s)[i]).toNat:Int):=bt_L (List.getElem?_eq_getElem hi);have hw:i64.wrap ((i:Int)+1)=((i+1:Nat):Int):=by rw[Ze (by omega) (by omega)];omega
  have hrest:L (s.extract (Int.toNat ((i+1:Nat):Int)) (Int.toNat (s.size:Int)))=(L s).drop (i+1):=by
   rw[Z18];simp only[Int.toNat_natCast];rw[List.take_of_length_le (by simp[Zz])]
  have hil:(ints acc).length=acc.length:=by simp[ints]
  rw[if_pos (by simp;omega),chkB (by omega),Z3y hi,hbt,hw];have hstep:∀ (k:Nat) (acc2:List UInt8),i<k→acc2.length≤10000+k→∃ o,Zw.l0 s (ints acc2) (k:Int)=some o∧got s (U ((L s).drop k) acc2) o:=fun k acc2 hk h2=>ih k acc2 (by omega) h2
  generalize hc:(L s)[i]=c at *;by_cases h34:c=34
  ·subst h34
   rw[if_pos (by decide),chkB (by omega)];refine⟨_,rfl,?_⟩;rw[U_34];exact⟨by rw[L_strOf],hrest,rfl⟩
  have e34:¬ (((c.toNat:Int)==(34:Int))=true):=fun h=>h34 ((Z83 (n:=34) (by omega)).1 h);rw[if_neg e34];by_cases h10:c=10
  ·subst h10
   rw[if_pos (by decide),U_10];exact⟨_,rfl,rfl,rfl,rfl⟩
  have e10:¬ (((c.toNat:Int)==(10:Int))=true):=fun h=>h10 ((Z83 (n:=10) (by omega)).1 h);rw[if_neg e10];by_cases h92:c=92
  case neg =>
   have e92:((c.toNat:Int) != (92:Int))=true:=by have:=neq_u8 (n:=92) (by omega) h92;simp[bne];simpa using this
   rw[if_pos e92,chkB (by rw[hil];simp;omega)];simp only[sb];rw[U_c h34 h10 h92,show ints acc++[(c.toNat:Int)]=ints (acc++[c]) from by simp[ints],hw];exact hstep (i+1) _ (by omega) (by simp;omega)
  subst h92;rw[if_neg (by decide)];by_cases hend:i+1=s.size
  ·rw[if_pos (by rw[hend];simp)]
   have hd:(L s).drop (i+1)=[]:=List.drop_eq_nil_of_le (by rw[Zz];omega);rw[hd,U_92];exact⟨_,rfl,rfl,rfl,rfl⟩
  have hi1:i+1<(L s).length:=by rw[Zz];omega
  have hbt1:bt s ((i+1:Nat):Int)=(((L s)[i+1]).toNat:Int):=bt_L (List.getElem?_eq_getElem hi1);have hw1:i64.wrap (((i+1:Nat):Int)+1)=((i+2:Nat):Int):=by rw[Ze (by omega) (by omega)];omega
  rw[if_neg (by simp;omega),chkB (by omega),Z3y hi1,hbt1];generalize (L s)[i+1]=d at *;by_cases h110:d=110
  ·subst h110
   rw[if_pos (by decide),chkB (by rw[hil];simp;omega)];simp only[sb];rw[U_92n,show ints acc++[10]=ints (acc++[10]) from by simp[ints],hw1];exact hstep (i+2) _ (by omega) (by simp;omega)
  have e110:¬ (((d.toNat:Int)==(110:Int))=true):=fun h=>h110 ((Z83 (n:=110) (by omega)).1 h);rw[if_neg e110];by_cases hd:d=34∨d=92
  ·rw[if34 (b:=true) (by simp[hd]),sb,if_pos rfl,chkB (by rw[hil];simp;omega)]
   simp only[sb];rw[U_92c hd,show ints acc++[(d.toNat:Int)]=ints (acc++[d]) from by simp[ints],hw1];exact hstep (i+2) _ (by omega) (by simp;omega)
  ·rw[if34 (b:=false) (by simp[hd]),sb,if_neg (by simp)]
   rw[U_92x h110 hd];exact⟨_,rfl,rfl,rfl,rfl⟩
def Unq (s:ByteArray) (a b:ByteArray) (ok:Bool):Prop :=
 (∃ t m,L s=34::body t++34::m∧L a=t∧L b=m∧ok=true)∨(L a=[]∧L b=[]∧ok=false)
theorem unq_eq (s:ByteArray) (hs:s.size≤10000):∃ a b ok,Zw.f s=some (a,b,ok)∧Unq s a b ok∧(∀ r t m,L s=34::r→U r []=some (t,m)→L a=t∧L b=m∧ok=true):=by
 unfold Zw.f;by_cases h0:s.size=0
 ·have hl:L s=[]:=List.length_eq_zero_iff.1 (by rw[Zz    ];exact h0)
  have:(s.toList==(⟨#[]⟩:ByteArray).toList)=true:=by rw[Zv,Zv,hl];rfl
  rw[if_pos this,sb,if_pos rfl];exact⟨_,_,_,rfl,.inr ⟨rfl,rfl,rfl⟩,fun r t m h=>by rw[hl] at h;simp at h⟩
 ·have hi:0<(L s).length:=by rw[Zz    ];omega
  have hne:¬ ((s.toList==(⟨#[]⟩:ByteArray).toList)=true):=by
   rw[Zv,Zv];intro h;have h':L s=[]:=by simpa using h
   rw[h'] at hi;simp at hi
  have hbt:bt s 0=(((L s)[0]).toNat:Int):=bt_L (i:=0) (List.getElem?_eq_getElem hi);have hd:L s=(L s)[0]::(L s).drop 1:=by have:=Z3y hi;simpa using this
  rw[if_neg hne,chkB (by omega),hbt];simp only[sb];by_cases h34:(L s)[0]=34
  ·rw[h34]
   rw[if_neg (by decide)];obtain⟨o,h1,h2⟩:=unq_loop s hs s.size 1 [] (by omega) (by simp);have h1':Zw.l0 s [] 1=some o:=h1;rw[h1',sb];rw[h34] at hd;generalize hu:U ((L s).drop 1) []=ur at h2;cases ur with
   | none =>
    cases o with
    | inl p =>
     obtain⟨a,b,ok⟩:=p;exact⟨a,b,ok,rfl,.inr h2,fun r t m h hU=>by rw[hd] at h;simp only[List.cons.injEq,true_and] at h;rw[← h,hu] at hU;simp at hU⟩
    | inr _=>exact⟨_,_,_,rfl,.inr ⟨rfl,rfl,rfl⟩,fun r t m h hU=>by rw[hd] at h;simp only[List.cons.injEq,true_and] at h;rw[← h,hu] at hU;simp at hU⟩
   | some q =>
    obtain⟨t,m⟩:=q;cases o with
    | inl p =>
     obtain⟨a,b,ok⟩:=p;obtain⟨g1,g2,g3⟩:=h2;obtain⟨u,e1,e2⟩:=U_back _ _ _ _ _ (Nat.le_refl _) hu;refine⟨a,b,ok,rfl,.inl ⟨t,m,?_,g1,g2,g3⟩,fun r t' m' h hU => ?_⟩
     ·rw[hd,e2];simp at e1;rw[e1];simp
     ·rw[hd] at h;simp only[List.cons.injEq,true_and] at h;rw[← h,hu] at hU;simp at hU;obtain⟨rfl,rfl⟩:=hU;exact⟨g1,g2,g3⟩
    | inr _=>exact h2.elim
  ·have hne':(((((L s)[0]).toNat:Int)) != (34:Int))=true:=by have:=neq_u8 (n:=34) (by omega) h34;simp[bne];simpa using this
   rw[if_pos hne'];exact⟨_,_,_,rfl,.inr ⟨rfl,rfl,rfl⟩,fun r t m h=>by rw[hd] at h;simp only[List.cons.injEq] at h;exact absurd h.1 h34⟩
end Go.Proofs.YtlkonkfkapdimaaGreatDoor.PvGR
namespace Go.Proofs.YtlkonkfkapdimaaGreatDoor.PvGR
open Go Go.Pv Go.Pv.GS Go.IntKind
theorem L_cons_of {s:ByteArray} (h:0<s.size):∃ c r,L s=c::r∧r.length=s.size-1∧bt s 0=(c.toNat:Int):=by
 cases hl:L s with
 | nil=>have:=Zz s;rw[hl] at this;simp at this;omega
 | cons c r =>
  refine⟨c,r,rfl,?_,bt_L (i:=0) (by rw[hl];rfl)⟩;have:=Zz s;rw[hl] at this;simp at this;omega
def Z36 (x:Zp):List UInt8:=L x.f0++61::34::(body (L x.f1)++[34])
def Z3b:List (List UInt8)→List UInt8
 | []=>[]
 | a::r=>a++r.flatMap (fun b=>44::b)
def Z2a (l:List Zp):List UInt8:=123::(Z3b (l.map Z36)++[125])
theorem joinL_snoc (a:List (List UInt8)) (x:List UInt8):Z3b (a++[x])=Z3b a++((if a=[] then [] else [44])++x):=by
 cases a with
 | nil=>simp[Z3b]
 | cons y a=>simp[Z3b]
theorem item_len {x:Zp} (h:Short x):(Z36 x).length≤200:=by
 have:=Z69 (L x.f1);rw[Zz] at this;have h0:=h.1;have h1:=h.2;simp only[Z36,List.length_append,List.length_cons,Zz,List.length_nil];omega
theorem Z5n:∀ (l:List Zp),(∀ x∈l,Short x)→(Z3b (l.map Z36)).length≤201*l.length:=by
 have key:∀ (l:List Zp),(∀ x∈l,Short x)→((l.map Z36).flatMap (fun b=>44::b)).length≤201*l.length:=fun l=>by
  induction l with
  | nil=>intro _;simp
  | cons x l ih =>
   intro h;have:=ih (fun y hy=>h y (by simp[hy]));have:=item_len (h x (by simp));simp only[List.map_cons,List.flatMap_cons,List.length_append,List.length_cons];omega
 intro l h;cases l with
 | nil=>simp[Z3b]
 | cons x l =>
  have:=key l (fun y hy=>h y (by simp[hy]));have:=item_len (h x (by simp));simp only[List.map_cons,Z3b,List.length_append,List.length_cons];omega
def itemB (x:Zp):ByteArray:=⟨(Z36 x).toArray⟩
theorem L_itemB (x:Zp):L (itemB x)=Z36 x:=by simp[itemB]
theorem itemB_size {x:Zp} (h:Short x):(itemB x).size≤200:=by rw[← Zz,L_itemB];exact item_len h
theorem print_l0 (l:List Zp) (hl:l.length≤16) (hs:∀ x∈l,Short x):∀ (suf pre:List Zp) (i:Int),l=pre++suf→i=(pre.length:Int)→Z0c.l0 l (pre.map itemB) i=some (l.map itemB):=by
 intro suf
 induction suf with
 | nil=>intro pre i h1 hi;rw[Z0c.l0,if_neg (by rw[h1];simp[hi]),h1,List.append_nil]
 | cons x suf ih =>
  intro pre i h1 hi;have hlen:l.length=pre.length+(suf.length+1):=by rw[h1];simp
  have hx:=hs x (by rw[h1];simp);have hx0:=hx.1;have hx1:=hx.2;have z:(⟨#[61]⟩:ByteArray).size=1:=rfl;have m1:(x.f0++(⟨#[61]⟩:ByteArray)).size=x.f0.size+1:=by rw[ByteArray.size_append,z]
  have hb:=Z69 (L x.f1);rw[Zz] at hb;have q:(⟨(34::body (L x.f1)++[34]).toArray⟩:ByteArray).size=(body (L x.f1)).length+2:=by rw[← Zz];simp
  have e:x.f0++(⟨#[61]⟩:ByteArray)++(⟨(34::body (L x.f1)++[34]).toArray⟩:ByteArray)=itemB x:=Z3s (by rw[Z1h,Z1h,L_itemB,Z36];simp[L_mk]);have next:=ih (pre++[x]) (i+1) (by simp[h1]) (by simp;omega)
  rw[List.map_append] at next
  rw[Z0c.l0,if_pos (by simp;omega),Z1v h1 hi,sb,chkB (by rw[z];omega),quote_eq x.f1 (by omega),sb,chkB (by rw[m1,q];omega),chkB (by simp;omega),e,Ze (by omega) (by omega)];exact next
theorem join_l0 (ws:List ByteArray) (sep:ByteArray) (hl:ws.length≤16) (hs:∀ w∈ws,w.size≤200):∀ (suf pre:List ByteArray) (n i:Int),ws=pre++suf→i=(pre.length:Int)→0≤n→n≤100000+200*pre.length→∃ n',Za.l0 ws sep n i=some n'∧n≤n'∧n'≤200000:=by
 intro suf
 induction suf with
 | nil=>intro pre n i h1 hi h0 hn;rw[Za.l0,if_neg (by rw[h1];simp[hi])];refine⟨n,rfl,Int.le_refl _,?_⟩;rw[List.append_nil] at h1;rw[← h1] at hn;omega
 | cons w suf ih =>
  intro pre n i h1 hi h0 hn;have hlen:ws.length=pre.length+(suf.length+1):=by rw[h1];simp
  have hw:=hs w (by rw[h1];simp);rw[Za.l0,if_pos (by simp;omega),Z1v h1 hi,sb,Ze (n:=(9223372036854775807:Int)-n) (by omega) (by omega),if_neg (by simp;omega),Ze (n:=n+(w.size:Int)) (by omega) (by omega),Ze (n:=i+1) (by omega) (by omega)];obtain⟨n',e,h2,h3⟩:=ih (pre++[w]) (n+w.size) (i+1) (by simp[h1]) (by simp;omega) (by omega) (by simp;omega);exact⟨n',e,by omega,h3⟩
theorem join_l1 (a0:List ByteArray) (rest:List ByteArray) (hr:(a0.drop (Int.toNat 1)).take ((Int.toNat (a0.length:Int))-(Int.toNat 1))=rest) (hl:rest.length≤16) (hs:∀ w∈rest,w.size≤200):∀ (suf pre:List ByteArray) (o:List UInt8) (i:Int),rest=pre++suf→i=(pre.length:Int)→o.length≤10000+201*pre.length →
  Za.l1 a0 (⟨#[44]⟩:ByteArray) (ints o) i=some (ints (o++(suf.map L).flatMap (fun b=>44::b))):=by
 intro suf;have hil:∀ o:List UInt8,(ints o).length=o.length:=fun o=>by simp[ints]
 induction suf with
 | nil=>intro pre o i h1 hi ho;rw[Za.l1,hr,if_neg (by rw[h1];simp[hi])];simp
 | cons w suf ih =>
  intro pre o i h1 hi ho;have hlen:rest.length=pre.length+(suf.length+1):=by rw[h1];simp
  have hw:=hs w (by rw[h1];simp);have z:(⟨#[44]⟩:ByteArray).size=1:=rfl;have b44:Z0m (⟨#[44]⟩:ByteArray)=ints [44]:=by rw[Z37]
  rw[Za.l1,hr,if_pos (by simp;omega),Z1v h1 hi,sb,ws (by rw[hil,z];omega),sb,b44,← Z45,ws (by rw[hil,List.length_append];simp;omega),sb,Z37,← Z45,Ze (by omega) (by omega)];have hwl:=Zz w;rw[ih (pre++[w]) _ (i+1) (by simp[h1]) (by simp;omega) (by simp;omega)];simp
theorem grow_eq {n:Int} (h0:0≤n) (h1:n≤200000):Zs.f n=some []:=by
 unfold Zs.f Zn.f Z0a.f;rw[sb,if_neg (by simp;omega),Ze (by omega) (by omega)];by_cases h:0<n
 ·rw[if_pos (by simpa using h),chkB (by omega),chkB (by omega),sb,sb]
 ·rw[if_neg (by simpa using h),sb]
theorem join_eq (ws:List ByteArray) (hl:ws.length≤16) (hs:∀ w∈ws,w.size≤200):Za.f ws (⟨#[44]⟩:ByteArray)=some ⟨(Z3b (ws.map L)).toArray⟩:=by
 unfold Za.f
 match ws,hl,hs with
 | [],_,_=>rfl
 | [a],_,_ =>
  rw[if_neg (by simp),if_pos (by simp),show at? [a] 0=some a from rfl,sb];congr 1;apply Z3s;simp[Z3b,L_mk]
 | a::b::r,hl,hs =>
  have hlen:((a::b::r).length:Int)=(r.length:Int)+2:=by simp;omega
  have hrl:r.length≤14:=by simp at hl;omega
  have hdiv:2≤(9223372036854775807:Int) / ((r.length:Int)+1):=Int.le_ediv_of_mul_le (by omega) (by omega);have hdiv2:(9223372036854775807:Int) / ((r.length:Int)+1)≤9223372036854775807:=Int.ediv_le_self _ (by omega);have z:(⟨#[44]⟩:ByteArray).size=1:=rfl;rw[hlen,if_neg (by simp;omega),if_neg (by simp;omega),z,if_pos (by decide),Ze (n:=(r.length:Int)+2-1) (by omega) (by omega),show(r.length:Int)+2-1=(r.length:Int)+1 by omega,chkB (by omega),Int.tdiv_eq_ediv_of_nonneg (by omega),Ze (n:=(9223372036854775807:Int) / ((r.length:Int)+1)) (by omega) (by omega),if_neg (by simp;omega)];have e1:i64.wrap (((1:Nat):Int)*((r.length:Int)+1))=(r.length:Int)+1:=by rw[Ze (by omega) (by omega)];omega
  rw[e1,Int.zero_add,Ze (n:=(r.length:Int)+1) (by omega) (by omega),sb];obtain⟨n',e,h2,h3⟩:=join_l0 (a::b::r) (⟨#[44]⟩:ByteArray) hl hs (a::b::r) [] ((r.length:Int)+1) 0 rfl rfl (by omega) (by simp;omega);have ha:=hs a (by simp);have hal:=Zz a;rw[e,sb,grow_eq (by omega) h3,sb,show at? (a::b::r) 0=some a from rfl,sb,Go.Proofs.YtlkonkfkapdimaaGreatDoor.PvGR.ws (by simp;omega),sb,chkB (by omega),List.nil_append,Z37];have hrest:((a::b::r).drop (Int.toNat 1)).take ((Int.toNat (((a::b::r).length:Nat):Int))-(Int.toNat 1))=b::r:=by
   rw[Int.toNat_natCast];simp
  rw[join_l1 (a::b::r) (b::r) hrest (by simp;omega) (fun w hw=>hs w (by simp at hw ⊢;exact .inr hw)) (b::r) [] (L a) 0 rfl rfl (by simp;omega),sb];have hne:ints (L a++((b::r).map L).flatMap (fun b=>44::b))≠[]:=by simp[ints]
  have hlen2:(ints (L a++((b::r).map L).flatMap (fun b=>44::b))).length≤9223372036854775807:=by
   have key:∀ (q:List ByteArray),(∀ w∈q,w.size≤200)→((q.map L).flatMap (fun b=>44::b)).length≤201*q.length:=fun q=>by
    induction q with
    | nil=>intro _;simp
    | cons x q ih =>
     intro h;have:=ih (fun y hy=>h y (by simp[hy]));have h1:=h x (by simp);have h2:=Zz x;simp only[List.map_cons,List.flatMap_cons,List.length_append,List.length_cons];omega
   have:=key (b::r) (fun w hw=>hs w (by simp at hw ⊢;exact .inr hw));simp only[ints,List.length_map,List.length_append] at this ⊢;simp only[List.length_cons] at this;omega
  have hstr:Zd.f (ints (L a++((b::r).map L).flatMap (fun b=>44::b)))=some ():=by
   unfold Zd.f;rw[chkB hne,chkB ⟨hne,hlen2,Z4o _⟩]
  rw[hstr,sb,Z3v];rfl
theorem lprint (l:List Zp) (hl:l.length≤16) (hs:∀ x∈l,Short x):Z0c.f l=some ⟨(Z2a l).toArray⟩:=by
 unfold Z0c.f;have hj:=Z5n l hs;rw[show Z0c.l0 l [] 0=_ from print_l0 l hl hs l [] 0 rfl rfl,sb,join_eq (l.map itemB) (by simpa using hl) (fun w hw=>by
  obtain⟨x,hx,rfl⟩:=List.mem_map.1 hw;exact itemB_size (hs x hx)),sb,List.map_map,show(L ∘ itemB)=Z36 from funext L_itemB]
 have z1:(⟨#[123]⟩:ByteArray).size=1:=rfl;have z2:(⟨#[125]⟩:ByteArray).size=1:=rfl;have z3:(⟨(Z3b (l.map Z36)).toArray⟩:ByteArray).size=(Z3b (l.map Z36)).length:=by rw[← Zz]
 rw[chkB (by rw[z1,z3];omega),chkB (by rw[ByteArray.size_append,z1,z2,z3];omega)];rfl
theorem rprint_l0 (l:List Zp) (hl:l.length≤16) (hs:∀ x∈l,Short x):∀ (suf pre:List Zp) (o:ByteArray) (i:Int),l=pre++suf→i=(pre.length:Int)→L o=123::Z3b (pre.map Z36) →
  ∃ r,Z0j.l0 l o i=some r∧L r=123::Z3b (l.map Z36):=by
 intro suf
 induction suf with
 | nil=>intro pre o i h1 hi ho;rw[Z0j.l0,if_neg (by rw[h1];simp[hi]),h1,List.append_nil];exact⟨o,rfl,ho⟩
 | cons x suf ih =>
  intro pre o i h1 hi ho;have hlen:l.length=pre.length+(suf.length+1):=by rw[h1];simp
  have hx:=hs x (by rw[h1];simp);have hx0:=hx.1;have hx1:=hx.2;have hpl:=Z5n pre (fun y hy=>hs y (by rw[h1];simp[hy]));have hos:o.size=1+(Z3b (pre.map Z36)).length:=by rw[← Zz,ho];simp;omega
  have z:(⟨#[61]⟩:ByteArray).size=1:=rfl;have z44:(⟨#[44]⟩:ByteArray).size=1:=rfl;have hb:=Z69 (L x.f1);rw[Zz] at hb;have q:(⟨(34::body (L x.f1)++[34]).toArray⟩:ByteArray).size=(body (L x.f1)).length+2:=by rw[← Zz];simp
  obtain⟨o2,e2,h2,h3⟩:∃ o2,((if(decide (i>(0:Int)))=true then((chk (((o.size+(⟨#[44]⟩:ByteArray).size:Nat):Int)≤9223372036854775807))>>=fun _=>some (o++(⟨#[44]⟩:ByteArray))) else(some o)):Option ByteArray)=some o2∧L o2=L o++(if pre.map Z36=[] then [] else [44])∧o2.size≤o.size+1:=by
   by_cases hp:pre=[]
   ·subst hp
    rw[if_neg (by simp at hi;simp;omega)];exact⟨o,rfl,by simp,by omega⟩
   ·have:0<pre.length:=List.length_pos_iff.2 hp
    rw[if_pos (by simp;omega),chkB (by rw[z44];omega)];exact⟨_,rfl,by rw[Z1h,if_neg (by simpa using hp)],by rw[ByteArray.size_append,z44];omega⟩
  rw[Z0j.l0,if_pos (by simp;omega),e2,sb,Z1v h1 hi,sb,chkB (by omega),chkB (by rw[ByteArray.size_append,z];omega),ref_eq x.f1 (by omega),sb,chkB (by rw[ByteArray.size_append,ByteArray.size_append,z,q];omega),Ze (by omega) (by omega)];refine ih (pre++[x]) _ (i+1) (by simp[h1]) (by simp;omega) ?_;rw[Z1h,Z1h,Z1h,h2,ho,List.map_append,List.map_cons,List.map_nil,joinL_snoc,Z36];simp[L_mk]
theorem rprint (l:List Zp) (hl:l.length≤16) (hs:∀ x∈l,Short x):Z0j.f l=some ⟨(Z2a l).toArray⟩:=by
 unfold Z0j.f;obtain⟨r,e,h⟩:=rprint_l0 l hl hs l [] (⟨#[123]⟩:ByteArray) 0 rfl rfl rfl;have hj:=Z5n l hs;have hrs:r.size=1+(Z3b (l.map Z36)).length:=by rw[← Zz,h];simp;omega
 have z2:(⟨#[125]⟩:ByteArray).size=1:=rfl;rw[e,sb,chkB (by rw[hrs,z2];omega)];congr 1;apply Z3s;rw[Z1h,h,Z2a];simp[L_mk]
theorem idx_none:∀ (l:List UInt8) (c:UInt8),Lib.indexByte l c = -1→c ∉ l
 | [],_,_=>by simp
 | b::l,c,h=>by
  unfold Lib.indexByte at h;by_cases e:b=c
  ·rw[if_pos (by simpa using e)] at h;omega
  ·rw[if_neg (by simpa using e)] at h
   by_cases e2:Lib.indexByte l c = -1
   ·have:=idx_none l c e2
    simp[this,fun q=>e (Eq.symm q)];exact fun q=>e q.symm
   ·rw[if_neg (by simpa using e2)] at h
    have:=Lib.indexByte_ge l c;omega
theorem idx_some:∀ (l:List UInt8) (c:UInt8),Lib.indexByte l c ≠ -1→∃ A B,l=A++c::B∧c ∉ A∧Lib.indexByte l c=(A.length:Int)
 | [],_,h=>by simp[Lib.indexByte] at h
 | b::l,c,h=>by
  unfold Lib.indexByte at h ⊢;by_cases e:b=c
  ·rw[if_pos (by simpa using e)]
   exact⟨[],l,by rw[e];rfl,by simp,rfl⟩
  ·rw[if_neg (by simpa using e)] at h ⊢
   by_cases e2:Lib.indexByte l c = -1
   ·rw[if_pos (by simpa using e2)] at h;exact absurd rfl h
   ·rw[if_neg (by simpa using e2)]
    obtain⟨A,B,h1,h2,h3⟩:=idx_some l c e2;refine⟨b::A,B,by rw[h1];rfl,?_,by rw[h3];simp⟩;intro q;rcases List.mem_cons.1 q with q | q
    ·exact e q.symm
    ·exact h2 q
theorem Z74 {c:UInt8}:∀ {A B A' B':List UInt8},A++c::B=A'++c::B'→c ∉ A→c ∉ A'→A=A'∧B=B'
 | [],B,[],B',h,_,_=>by simp at h;exact⟨rfl,h⟩
 | [],B,y::A',B',h,_,h2=>by simp at h;exact absurd (by rw[← h.1];simp) h2
 | x::A,B,[],B',h,h1,_=>by simp at h;exact absurd (by rw[h.1];simp) h1
 | x::A,B,y::A',B',h,h1,h2=>by
  simp only[List.cons_append,List.cons.injEq] at h;obtain⟨e1,e2⟩:=Z74 h.2 (fun q=>h1 (by simp[q])) (fun q=>h2 (by simp[q]));exact⟨by rw[h.1,e1],e2⟩
theorem cut_spec (s:ByteArray) (hs:s.size≤5000):∃ a b ok,Z1j.f s=some (a,b,ok)∧((ok=false∧61 ∉ L s)∨(ok=true∧L s=L a++61::L b∧61 ∉ L a)):=by
 unfold Z1j.f Z15.f Z0v.f Zo.f;have hbt:bt (⟨#[61]⟩:ByteArray) 0=61:=by decide
 have hdata:s.data.toList=L s:=rfl;have h61:(Int.toNat 61).toUInt8=61:=by decide
 by_cases he:L s=[61]
 ·have:((⟨#[61]⟩:ByteArray).toList==s.toList)=true:=by rw[Zv      ,Zv      ,he];rfl
  have hsz:s.size=1:=by rw[← Zz,he];rfl
  rw[if_pos this,sb,if_pos (by simp),chkB (by omega),show i64.wrap ((0:Int)+1)=1 by decide,chkB (by omega),sb];refine⟨_,_,_,rfl,.inr ⟨rfl,?_,?_⟩⟩
  ·rw[Z18,Z18,he,hsz];rfl
  ·rw[Z18];simp
 ·have:¬ ((⟨#[61]⟩:ByteArray).toList==s.toList)=true:=by
   rw[Zv,Zv];intro q;exact he ((beq_iff_eq.1 q).symm.trans rfl)
  rw[if_neg this,chkB (by decide),sb,hbt,h61,hdata,sb];by_cases hn:Lib.indexByte (L s) 61 = -1
  ·rw[hn,if_neg (by simp),sb]
   exact⟨_,_,_,rfl,.inl ⟨rfl,idx_none _ _ hn⟩⟩
  ·obtain⟨A,B,h1,h2,h3⟩:=idx_some _ _ hn
   have hlen:=congrArg List.length h1;rw[Zz,List.length_append,List.length_cons] at hlen;rw[h3,if_pos (by simp),chkB (by omega),Ze (n:=(A.length:Int)+1) (by omega) (by omega),chkB (by omega),sb];refine⟨_,_,_,rfl,.inr ⟨rfl,?_,?_⟩⟩
   ·rw[Z18      ,Z18      ,h1,show Int.toNat 0=0 from rfl,Int.toNat_natCast,List.drop_zero,Nat.sub_zero,List.take_left]
    rw[show Int.toNat ((A.length:Int)+1)=A.length+1 by omega,Int.toNat_natCast];have e1:(A++61::B).drop (A.length+1)=B:=by
     rw[← List.drop_drop,List.drop_left];rfl
    rw[e1,List.take_of_length_le (by omega)]
   ·rw[Z18      ,h1,show Int.toNat 0=0 from rfl,Int.toNat_natCast,List.drop_zero,Nat.sub_zero,List.take_left]
    exact h2
def Z73 (l:List Zp):List UInt8:=(l.map Z36).flatMap (fun b=>44::b)++[125]
theorem Z7r (x:Zp) (l:List Zp):Z3b ((x::l).map Z36)++[125]=L x.f0++61::(34::body (L x.f1)++34::Z73 l):=by
 simp[Z3b,Z36,Z73]
theorem Z5e (y:Zp) (l:List Zp):Z73 (y::l)=44::(Z3b ((y::l).map Z36)++[125]):=by
 simp[Z3b,Z73]
theorem tail_ne (l:List Zp):Z73 l≠[]:=by simp[Z73]
def NoEq (l:List Zp):Prop:=∀ x∈l,61 ∉ L x.f0
theorem eqL (a:ByteArray) (l:List UInt8) (b:ByteArray) (hb:L b=l):(a.toList==b.toList)=decide (L a=l):=by
 rw[Zv,Zv,hb,Bool.eq_iff_iff];simp
theorem parse_l0:∀ (n:Nat) (s:ByteArray) (acc:List Zp),s.size≤n→s.size≤5000→acc.length+s.size≤20000 →
  (Z06.l0 s acc=some (.inl ([],6))∨∃ l,l≠[]∧Z06.l0 s acc=some (.inr (acc++l))∧L s=Z3b (l.map Z36)++[125]) ∧
  (∀ l,l≠[]→NoEq l→L s=Z3b (l.map Z36)++[125]→Z06.l0 s acc=some (.inr (acc++l))):=by
 intro n
 induction n with
 | zero =>
  intro s acc hn h5 ha;have h0:L s=[]:=List.length_eq_zero_iff.1 (by rw[Zz];omega);obtain⟨a,b,ok,e,h⟩:=cut_spec s h5;rw[Z06.l0,e,sb];rcases h with ⟨rfl,h⟩ | ⟨_,h,_⟩
  ·dsimp only
   rw[if_pos (show(!false)=true from rfl)];exact⟨.inl rfl,fun l hl _ q=>by rw[h0] at q;simp at q⟩
  ·rw[h0] at h;simp at h
 | succ n ih =>
  intro s acc hn h5 ha;obtain⟨a,b,ok,e,h⟩:=cut_spec s h5;rw[Z06.l0,e,sb];have first:∀ l:List Zp,l≠[]→L s=Z3b (l.map Z36)++[125]→∃ x l',l=x::l'∧L s=L x.f0++61::(34::body (L x.f1)++34::Z73 l'):=fun l hl q=>by
   cases l with
   | nil=>exact absurd rfl hl
   | cons x l'=>exact⟨x,l',rfl,by rw[q,Z7r]⟩
  rcases h with ⟨rfl,h⟩ | ⟨rfl,h,hna⟩
  ·dsimp only
   rw[if_pos (show(!false)=true from rfl)];refine⟨.inl rfl,fun l hl hne q => ?_⟩;obtain⟨x,l',_,q2⟩:=first l hl q
   exact absurd (by rw[q2];simp) h
  dsimp only;rw[if_neg (by simp)];have hbl:b.size≤s.size:=by
   have:=congrArg List.length h;rw[Zz,List.length_append,List.length_cons,Zz,Zz] at this;omega
  have hab:a.size+b.size+1=s.size:=by
   have:=congrArg List.length h;rw[Zz,List.length_append,List.length_cons,Zz,Zz] at this;omega
  obtain⟨t,m,ok,eu,hu,hfw⟩:=unq_eq b (by omega);rw[eu,sb];dsimp only;have hmz:(m.toList==(⟨#[]⟩:ByteArray).toList)=decide (L m=[]):=eqL m [] _ rfl;rw[hmz];have shape:∀ l,l≠[]→NoEq l→L s=Z3b (l.map Z36)++[125]→∃ x l',l=x::l'∧x=⟨a,t⟩∧L m=Z73 l'∧ok=true:=fun l hl hne q=>by
   obtain⟨x,l',q1,q2⟩:=first l hl q
   rw[h] at q2;obtain⟨z1,z2⟩:=Z74 q2 hna (hne x (by rw[q1];simp));obtain⟨w1,w2,w3⟩:=hfw (body (L x.f1)++34::Z73 l') (L x.f1) (Z73 l') z2 (by rw[U_body];simp);refine⟨x,l',q1,?_,w2,w3⟩;have y1:=Z3s z1;have y2:=Z3s w1;cases x;simp_all
  by_cases hbad:ok=false∨L m=[]
  ·have hb:((if(!ok)=true then(some true) else(some (decide (L m=[])))):Option Bool)=some true:=by
    cases ok
    ·rfl
    ·rcases hbad with q | q
     ·simp at q
     ·rw[if_neg (by simp),decide_eq_true q]
   rw[hb,sb,if_pos rfl];refine⟨.inl rfl,fun l hl hne q => ?_⟩;obtain⟨x,l',_,_,q3,q4⟩:=shape l hl hne q;rcases hbad with q5 | q5
   ·rw[q4] at q5;simp at q5
   ·rw[q3] at q5;exact absurd q5 (tail_ne l')
  have hok:ok=true:=by cases ok;exact absurd (.inl rfl) hbad;rfl
  have hmne:L m≠[]:=fun q=>hbad (.inr q);subst hok;have hb:((if(!true)=true then(some true) else(some (decide (L m=[])))):Option Bool)=some false:=by
   rw[if_neg (by simp),decide_eq_false hmne]
  rw[hb,sb,if_neg (by simp),chkB (by simp;omega)];obtain⟨t',m',k1,k2,k3,_⟩:∃ t' m',L b=34::body t'++34::m'∧L t=t'∧L m=m'∧True:=by
   rcases hu with ⟨t',m',k1,k2,k3,_⟩ | ⟨_,_,k3⟩
   ·exact⟨t',m',k1,k2,k3,trivial⟩
   ·simp at k3
  have hs2:L s=L a++61::(34::body (L t)++34::L m):=by rw[h,k1,k2,k3]
  have hm125:(m.toList==(⟨#[125]⟩:ByteArray).toList)=decide (L m=[125]):=eqL m [125] _ rfl;rw[hm125];by_cases hend:L m=[125]
  ·rw[if_pos (by simpa using hend)]
   refine⟨.inr ⟨[⟨a,t⟩],by simp,rfl,?_⟩,fun l hl hne q => ?_⟩
   ·rw[Z7r,hs2,hend];rfl
   ·obtain⟨x,l',q1,q2,q3,_⟩:=shape l hl hne q
    have:l'=[]:=by
     cases l' with
     | nil=>rfl
     | cons y l''=>rw[Z5e,hend] at q3;simp at q3
    rw[q1,q2,this]
  rw[if_neg (by simpa using hend)];have hms:0<m.size:=by
   rw[← Zz];exact List.length_pos_iff.2 hmne
  obtain⟨c,r,hc,hr,hbt⟩:=L_cons_of hms;rw[chkB (by omega),hbt];by_cases h44:c=44
  case neg =>
   have:(((c.toNat:Int)) != (44:Int))=true:=by have:=neq_u8 (n:=44) (by omega) h44;simp[bne];simpa using this
   rw[if_pos this];refine⟨.inl rfl,fun l hl hne q => ?_⟩;obtain⟨x,l',q1,q2,q3,_⟩:=shape l hl hne q;cases l' with
   | nil=>exact absurd (by rw[q3];rfl) hend
   | cons y l''=>rw[Z5e,hc] at q3;simp at q3;exact absurd q3.1 h44
  subst h44;rw[if_neg (by decide),chkB (by omega)];have hrest:L (m.extract (Int.toNat 1) (Int.toNat (m.size:Int)))=r:=by
   rw[Z18,hc,Int.toNat_natCast,show Int.toNat 1=1 from rfl,List.drop_succ_cons,List.drop_zero,List.take_of_length_le (by omega)]
  have hmb:m.size≤b.size:=by
   have:=congrArg List.length k1;rw[← k3] at this;simp only[Zz,List.length_append,List.length_cons] at this;omega
  have hrs:(m.extract (Int.toNat 1) (Int.toNat (m.size:Int))).size=m.size-1:=by rw[← Zz,hrest];exact hr
  obtain⟨i1,i2⟩:=ih (m.extract (Int.toNat 1) (Int.toNat (m.size:Int))) (acc++[⟨a,t⟩]) (by omega) (by omega) (by simp;omega);refine⟨?_,fun l hl hne q => ?_⟩
  ·rcases i1 with i1 | ⟨l,hl,e1,e2⟩
   ·exact .inl i1
   ·refine .inr ⟨⟨a,t⟩::l,by simp,by rw[e1];simp,?_⟩
    rw[Z7r,hs2];have:L m=Z73 l:=by
     cases l with
     | nil=>exact absurd rfl hl
     | cons y l'=>rw[Z5e,hc,← hrest,e2]
    rw[this]
  ·obtain⟨x,l',q1,q2,q3,_⟩:=shape l hl hne q
   cases l' with
   | nil=>exact absurd (by rw[q3];rfl) hend
   | cons y l'' =>
    rw[Z5e,hc,List.cons.injEq] at q3;rw[i2 (y::l'') (by simp) (fun z hz=>hne z (by rw[q1];simp at hz ⊢;exact .inr hz)) (by rw[hrest];exact q3.2),q1,q2];simp
theorem nameL_61:∀ (l:List UInt8) (f:Bool),nameL f l=true→61 ∉ l
 | [],_,_=>by simp
 | c::l,f,h=>by
  simp only[nameL,Bool.and_eq_true] at h;have:=nameL_61 l false h.2;intro q;rcases List.mem_cons.1 q with q | q
  ·have h1:=h.1
   rw[← q] at h1;simp only[nameC,decide_eq_true_eq] at h1;have:((61:UInt8).toNat:Int)=61:=by decide
   omega
  ·exact this q
theorem noEq_of {l:List Zp} (h:Z5w l):NoEq l:=fun x hx=>by
 have:=h.1 x hx;simp only[nameB,Bool.and_eq_true] at this;exact nameL_61 _ _ this.1.2
theorem prefix_spec (s:ByteArray) (hs:s.size≤5000):∃ rest ok,Z11.f s (⟨#[123]⟩:ByteArray)=some (rest,ok)∧((ok=true∧L s=123::L rest)∨(ok=false∧∀ r,L s≠123::r)):=by
 unfold Z11.f Z0w.f Z02.f;have z:(⟨#[123]⟩:ByteArray).size=1:=rfl;by_cases h0:0<s.size
 case neg =>
  have:L s=[]:=List.length_eq_zero_iff.1 (by rw[Zz];omega);rw[z,if_neg (by rw[decide_eq_true_eq];omega),sb,sb,if_pos (show(!false)=true from rfl),sb];exact⟨_,_,rfl,.inr ⟨rfl,fun r q=>by rw[this] at q;simp at q⟩⟩
 obtain⟨c,r,hc,hr,hbt⟩:=L_cons_of h0;have hx:L (s.extract (Int.toNat 0) (Int.toNat ((1:Nat):Int)))=[c]:=by
  rw[Z18,hc];rfl
 have heq:((s.extract (Int.toNat 0) (Int.toNat ((1:Nat):Int))).toList==(⟨#[123]⟩:ByteArray).toList)=decide (c=123):=by
  rw[Zv,Zv,hx,Bool.eq_iff_iff];simp[L_mk]
 rw[z,if_pos (by rw[decide_eq_true_eq];omega),chkB (by omega),heq,sb,sb];by_cases h123:c=123
 ·rw[decide_eq_true h123,if_neg (by simp),chkB (by omega),sb]
  refine⟨_,_,rfl,.inl ⟨rfl,?_⟩⟩;rw[Z18,hc,h123,Int.toNat_natCast,Int.toNat_natCast,List.drop_succ_cons,List.drop_zero,List.take_of_length_le (by omega)]
 ·rw[decide_eq_false h123,if_pos (show(!false)=true from rfl),sb]
  exact⟨_,_,rfl,.inr ⟨rfl,fun r' q=>by rw[hc,List.cons.injEq] at q;exact h123 q.1⟩⟩
theorem chkC_vals (l:List Zp):chkC l=0∨chkC l=9∨chkC l=26:=by
 unfold chkC;by_cases h:l.length>16
 ·rw[if_pos h];exact .inr (.inl rfl)
 ·rw[if_neg h]
  by_cases h2:Z3a none l=true
  ·rw[if_pos h2];exact .inl rfl
  ·rw[if_neg h2];exact .inr (.inr rfl)
theorem parse_spec (s:ByteArray) (hs:s.size≤5000):∃ y f,Z06.f s=some (y,f)∧((f=0∧chkC y=0∧L s=Z2a y)∨((f=6∨f=9∨f=26)∧y=[]))∧(∀ l,chkC l=0→L s=Z2a l→y=l∧f=0):=by
 unfold Z06.f;obtain⟨rest,ok,e,h⟩:=prefix_spec s hs;rw[e,sb];rcases h with ⟨rfl,h⟩ | ⟨rfl,h⟩
 case inr =>
  dsimp only;rw[if_pos (show(!false)=true from rfl)];exact⟨[],6,rfl,.inr ⟨.inl rfl,rfl⟩,fun l _ q=>absurd q (h _)⟩
 have hrs:rest.size+1=s.size:=by
  have:=congrArg List.length h;rw[Zz,List.length_cons,Zz] at this;omega
 dsimp only;rw[if_neg (by simp),show(rest.toList==(⟨#[125]⟩:ByteArray).toList)=decide (L rest=[125]) from eqL rest [125] _ rfl];have c0:chkC []=0:=by decide
 by_cases h125:L rest=[125]
 ·rw[if_pos (by simpa using h125)]
  refine⟨[],0,rfl,.inl ⟨rfl,c0,by rw[h,h125];rfl⟩,fun l hl q=>⟨?_,rfl⟩⟩;rw[h,h125,Z2a,List.cons.injEq] at q;cases l with
  | nil=>rfl
  | cons x l' =>
   have:=congrArg List.length q.2;simp[Z3b,Z36] at this;omega
 ·rw[if_neg (by simpa using h125)]
  obtain⟨p1,p2⟩:=parse_l0 rest.size rest [] (Nat.le_refl _) (by omega) (by simp;omega);have fw:∀ l,chkC l=0→L s=Z2a l→Z06.l0 rest []=some (.inr l):=fun l hl q=>by
   rw[h,Z2a,List.cons.injEq] at q;have hne:l≠[]:=fun e=>by rw[e] at q;exact h125 q.2
   have:=p2 l hne (noEq_of (Z4m hl).2) q.2
   rwa [List.nil_append] at this
  rcases p1 with p1 | ⟨l,hl,p1,p3⟩
  ·rw[p1,sb]
   exact⟨[],6,rfl,.inr ⟨.inl rfl,rfl⟩,fun l hl q=>by have:=fw l hl q;rw[p1] at this;simp at this⟩
  ·rw[p1,sb,List.nil_append]
   dsimp only;rw[lcheck,sb];by_cases hc:chkC l=0
   ·rw[if_neg (by simpa using hc)]
    exact⟨l,0,rfl,.inl ⟨rfl,hc,by rw[h,p3];rfl⟩,fun l2 hl2 q=>by have:=fw l2 hl2 q;rw[p1] at this;simp at this;exact⟨this,rfl⟩⟩
   ·rw[if_pos (by simpa using hc)]
    have hv:=chkC_vals l;refine⟨[],chkC l,rfl,.inr ⟨by omega,rfl⟩,fun l2 hl2 q => ?_⟩;have:=fw l2 hl2 q;rw[p1] at this;simp at this;rw[this] at hc;exact absurd hl2 hc
theorem bk_same (h:Zi) (x124:Int) (l:List Z2) (hs:Z21 h.f1) (hl:l.length<1000000):∀ (suf pre:List Z2) (acc:List Int) (i:Int),l=pre++suf→i=(pre.length:Int)→acc.length+suf.length<10000000→(∀ b∈suf,I64 b.f0∧U64 b.f1) →
  ∃ r:Int,Zf.l0 h l i=some (if r=0 then .inr () else .inl r)∧Zg.l1 h x124 l acc i=some (if r=0 then .inr (acc++suf.map (·.f1)) else .inl r):=by
 intro suf
 induction suf with
 | nil =>
  intro pre acc i h1 hi _ _;subst h1;refine⟨0,?_,?_⟩
  ·rw[Zf.l0,if_neg (by simp[hi]),if_pos rfl]
  ·rw[Zg.l1,if_neg (by simp[hi]),if_pos rfl];simp
 | cons x suf ih =>
  intro pre acc i h1 hi ha hU;have hx:=hU x (by simp);have hlen:(l.length:Int)=pre.length+(suf.length+1):=by rw[h1];simp
  simp only[List.length_cons] at ha;by_cases c1:InS h.f1 x.f0
  case neg =>
   refine⟨4,?_,?_⟩
   ·rw[Zf.l0,if_pos (by simp;omega),Z1v h1 hi,sb,in_T hs,sb,if_pos (by simp[c1]),if_neg (by omega)]
   ·rw[Zg.l1,if_pos (by simp;omega),Z1v h1 hi,sb,ref_in hs hx.1,sb,if_pos (by simp[c1]),if_neg (by omega)]
  have hsm:=Z4k c1;obtain⟨c,ec1,ec2⟩:∃ c:Bool,((if(decide (i>(0:Int)))=true then((at? l (i64.wrap (i-(1:Int))))>>=fun b922=>some (decide (b922.f0≥x.f0))) else(some false)):Option (Bool))=some c ∧
    ((if(decide (i>(0:Int)))=true then((at? l (i64.wrap (i-(1:Int))))>>=fun b168=>some (decide (x.f0≤b168.f0))) else(some false)):Option (Bool))=some c:=by
   by_cases h0:0<i
   ·obtain⟨q,e1,y,e2,e3⟩:=last_pre h1 hi h0 (by omega)
    exact⟨decide (x.f0≤y.f0),by rw[if_pos (by simpa using h0),e2,sb],by rw[if_pos (by simpa using h0),e2,sb]⟩
   ·exact⟨false,by rw[if_neg (by simpa using h0)],by rw[if_neg (by simpa using h0)]⟩
  have P:Zf.l0 h l i=(if c=true then some (.inl 32) else if x.f1=0 then some (.inl 21) else if(x.f0-1)*stp h.f1<h.f2 then some (.inl 31) else Zf.l0 h l (i+1)):=by
   rw[Zf.l0,if_pos (by simp;omega),Z1v h1 hi,sb,in_T hs,sb,if_neg (by simp[c1]),ec1,sb,low_T hs c1,Ze (n:=i+1) (by omega) (by omega)];simp only[sb];simp
  have Q:Zg.l1 h x124 l acc i=(if c=true then some (.inl 32) else if x.f1=0 then some (.inl 21) else if(x.f0-1)*stp h.f1<h.f2 then some (.inl 31) else Zg.l1 h x124 l (acc++[x.f1]) (i+1)):=by
   rw[Zg.l1,if_pos (by simp;omega),Z1v h1 hi,sb,ref_in hs hx.1,sb,if_neg (by simp[c1]),ec2,sb,Ze (n:=x.f0-1) (by omega) (by omega),Z7f hs (by omega),chkB (by simp;omega),Ze (n:=i+1) (by omega) (by omega)];simp only[sb];simp
  cases c with
  | true=>exact⟨32,by rw[P,if_pos rfl,if_neg (by omega)],by rw[Q,if_pos rfl,if_neg (by omega)]⟩
  | false =>
   by_cases c2:x.f1=0
   ·exact⟨21,by rw[P,if_neg (by simp),if_pos c2,if_neg (by omega)],by rw[Q,if_neg (by simp),if_pos c2,if_neg (by omega)]⟩
   by_cases c3:(x.f0-1)*stp h.f1<h.f2
   ·exact⟨31,by rw[P,if_neg (by simp),if_neg c2,if_pos c3,if_neg (by omega)],by rw[Q,if_neg (by simp),if_neg c2,if_pos c3,if_neg (by omega)]⟩
   obtain⟨r,e1,e2⟩:=ih (pre++[x]) (acc++[x.f1]) (i+1) (by simp[h1]) (by simp;omega) (by simp;omega) (fun b hb=>hU b (by simp[hb]));exact⟨r,by rw[P,if_neg (by simp),if_neg c2,if_neg c3,e1],by rw[Q,if_neg (by simp),if_neg c2,if_neg c3,e2];simp⟩
theorem side_same (h:Zi) (x124:Int) (l:List Z2) (acc:List Int) (hs:Z21 h.f1) (ha:acc.length<1000000) (hU:∀ b∈l,I64 b.f0∧U64 b.f1) :
  ∃ r:Int,Zf.f h l=some r∧(if(decide ((l.length:Int)>(512:Int)))=true then(some (.inl 9)) else(Zg.l1 h x124 l acc 0))=some (if r=0 then Sum.inr (acc++l.map (·.f1)) else .inl r):=by
 by_cases h0:l.length>512
 ·refine⟨9,?_,?_⟩
  ·unfold             Zf.f
   rw[if_pos (by simp;omega)]
  ·rw[if_pos (by simp;omega),if_neg (by omega)]
 ·obtain⟨r,e1,e2⟩:=bk_same h x124 l hs (by omega) l [] acc 0 rfl rfl (by omega) hU
  refine⟨r,?_,?_⟩
  ·unfold             Zf.f
   rw[if_neg (by simp;omega),e1,sb];by_cases c:r=0
   ·rw[if_pos c];simp[c]
   ·rw[if_neg c]
  ·rw[if_neg (by simp;omega),e2]
theorem check_same (h:Zi) (hf:Fits h) (hp:h.f6.length<1000000000000000) (hn:h.f7.length<1000000000000000):∃ r,Zu.f h=some r∧Zg.f h=some r∧(r=0↔Valid h):=by
 obtain⟨r,er,hr⟩:=ref_check_iff h hf hp hn;refine⟨r,?_,er,hr⟩
 suffices q:Zg.f h=Zu.f h by rw[← q];exact er
 clear er hr;have hk:((if(h.f0 != (0:Int))=true then(some (h.f0 != (1:Int))) else(some false)):Option (Bool))=some (!decide (h.f0=0∨h.f0=1)):=by
  by_cases h1:h.f0=0
  ·simp[h1]
  ·by_cases h2:h.f0=1<;>simp[h1,h2]
 have hz:((if(h.f2 != (-524288))=true then(if(decide (h.f2≤(-262144)))=true then(some true) else(some (decide (h.f2>(262144:Int))))) else(some false)):Option (Bool))=some (!decide (h.f2 = -524288∨(-262144<h.f2∧h.f2≤262144))):=by
  by_cases h1:h.f2 = -524288
  ·simp[h1]
  ·by_cases h2:h.f2 ≤ -262144
   ·simp[h1,h2]
   ·have h4 : -262144<h.f2:=by omega
    by_cases h3:h.f2≤262144
    ·simp[h1,h2,h3,h4]
    ·simp[h1,h2,h3,h4];omega
 unfold Zu.f Zg.f;rw[hk,sb,sb,Z5g];by_cases c1:h.f0=0∨h.f0=1
 case neg=>rw[if_pos (by simpa using c1),if_pos (by simpa using c1)]
 have hk1:¬ ((!decide (h.f0=0∨h.f0=1))=true):=by rw[decide_eq_true c1];decide
 rw[if_neg hk1,if_neg hk1];by_cases c2:Z21 h.f1
 case neg=>rw[right_F c2,sb,sb,if_pos (by simp[c2]),if_pos (by simp)]
 rw[Z7d c2,sb,sb];rw[if_neg (show ¬ ((!decide (Z21 h.f1))=true) by simp[c2]),if_neg (show ¬ ((!true)=true) by simp),hz,sb,sb];by_cases c3:h.f2 = -524288∨(-262144<h.f2∧h.f2≤262144)
 case neg =>
  have hk3:(!decide (h.f2 = -524288∨(-262144<h.f2∧h.f2≤262144)))=true:=by rw[decide_eq_false c3];rfl
  rw[if_pos hk3,if_pos hk3]
 have hk3:¬ ((!decide (h.f2 = -524288∨(-262144<h.f2∧h.f2≤262144)))=true):=by rw[decide_eq_true c3];decide
 rw[if_neg hk3,if_neg hk3];obtain⟨r1,p1,q1⟩:=side_same h 0 h.f6 [h.f3] c2 (by simp) hf.pos;have w1:i64.wrap (0+1)=1:=by decide
 have w2:i64.wrap (1+1)=2:=by decide
 have step:∀ (k:Int) (l:List Z2) (acc:List Int),(k=0∧l=h.f6∨k=1∧l=h.f7)→Zg.l0 h acc k=((if(decide ((l.length:Int)>(512:Int)))=true then(some (.inl 9)) else(Zg.l1 h k l acc 0))>>=fun(oo:Int ⊕ List Int)=>match oo with | .inl rr=>(some (.inl rr)) | .inr x181=>(Zg.l0 h x181 (k+1))):=by
  intro k l acc hk;rcases hk with ⟨rfl,rfl⟩ | ⟨rfl,rfl⟩
  ·rw[Zg.l0,if_pos (by decide),if_neg (by decide),sb,w1,Z5s];rfl
  ·rw[Zg.l0,if_pos (by decide),if_pos (by decide),sb,w2,Z5s];rfl
 rw[step 0 h.f6 _ (.inl ⟨rfl,rfl⟩),q1,sb,Z7v,p1,sb];by_cases d1:r1=0
 case neg=>rw[if_neg d1,if_pos (by simpa using d1)];simp only[sb]
 rw[if_pos d1,if_neg (by simpa using d1)];by_cases hlen6:h.f6.length≤512
 case neg =>
  exfalso;have:Zf.f h h.f6=some 9:=by unfold Zf.f;rw[if_pos (by simp;omega)]
  rw[p1] at this;simp at this;omega
 obtain⟨r2,p2,q2⟩:=side_same h 1 h.f7 ([h.f3]++h.f6.map (·.f1)) c2 (by simp;omega) hf.neg;simp only[];rw[show(0:Int)+1=1 from rfl,step 1 h.f7 _ (.inr ⟨rfl,rfl⟩),q2,sb,p2,sb];by_cases d2:r2=0
 case neg=>rw[if_neg d2,if_pos (by simpa using d2)];simp only[sb]
 rw[if_pos d2,if_neg (by simpa using d2)];by_cases hlen7:h.f7.length≤512
 case neg =>
  exfalso;have:Zf.f h h.f7=some 9:=by unfold Zf.f;rw[if_pos (by simp;omega)]
  rw[p2] at this;simp at this;omega
 simp only[];rw[show(1:Int)+1=2 from rfl,Zg.l0,if_neg (by decide),sb,sb];simp only[];rw[total3 _ _ _ (by omega) (by omega) (fun b hb=>(hf.pos b hb).2) (fun b hb=>(hf.neg b hb).2) hf.zero,sb];have hsum:(([h.f3]++h.f6.map (·.f1))++h.f7.map (·.f1)).sum=cnt h.f6+cnt h.f7+h.f3:=by simp[cnt];omega
 rw[ref_add _ (by simp;omega) (by
  intro x hx;simp only[List.mem_append,List.mem_singleton,List.mem_map] at hx;rcases hx with (rfl | ⟨b,hb,rfl⟩) | ⟨b,hb,rfl⟩
  ·exact hf.zero
  ·exact(hf.pos b hb).2
  ·exact(hf.neg b hb).2),sb,hsum]
 by_cases c4:cnt h.f6+cnt h.f7+h.f3<18446744073709551616
 ·rw[if_pos c4];try simp
 ·rw[if_neg c4];try simp
def itemF (l:List Zp) (t:Int) (h:Zi):List UInt8:=T 32 (Lib.itoa t::(Z64 h++[45::Z26 h.f7])) (Z2a l)
theorem itemF_eq (l:List Zp) (t:Int) (h:Zi):itemF l t h=Lib.itoa t++[32]++Z65 h++[32]++Z2a l:=by simp[itemF,Z65,Z64,T]
theorem Z7h {l:List Zp} (h:chkC l=0):(Z2a l).length≤3300:=by
 obtain⟨la,ra⟩:=Z4m h;have:=Z5n l (Z55 ra);simp[Z2a];omega
theorem fItem_ok (l:List Zp) (t:Int) (h:Zi) (hc:chkC l=0) (h0:0≤t) (h1:t≤1099511627776) (k:HOk h):Z1x.f ⟨l,t,h⟩=some (txt (itemF l t h),0):=by
 unfold Z1x.f;obtain⟨la,ra⟩:=Z4m hc;have e1:=Z2h (n:=t) (by omega) (by omega);have e2:=Z5o k;have e3:=Z7h hc;have s1:(txt (Lib.itoa t)).size≤21:=by rw[Z0q];exact e1
 have s2:(txt (Z65 h)).size≤60000:=by rw[Z0q];exact e2
 have s3:(txt (Z2a l)).size≤3300:=by rw[Z0q];exact e3
 have z32:(⟨#[32]⟩:ByteArray).size=1:=rfl;have fin:txt (Lib.itoa t)++(⟨#[32]⟩:ByteArray)++txt (Z65 h)++(⟨#[32]⟩:ByteArray)++txt (Z2a l)=txt (itemF l t h):=Z3s (by
  rw[itemF_eq];simp only[Z1h,Z1r])
 have hp:Z0c.f l=some (txt (Z2a l)):=lprint l la (Z55 ra);rw[lcheck,sb];dsimp only;rw[hc,if_neg (by simp),if_neg (by simp;omega),sb,if_neg (by simp;omega),fHist_ok h k,sb];dsimp only;rw[if_neg (by simp),fmtI t (by omega) (by omega),sb,chkB (by(try simp only[ByteArray.size_append]);omega),chkB (by(try simp only[ByteArray.size_append]);omega),chkB (by(try simp only[ByteArray.size_append]);omega),hp,sb,chkB (by(try simp only[ByteArray.size_append]);omega),fin]
theorem kind_no (k:Int):(32:UInt8) ∉ Z59 k∧Z59 k≠[]:=⟨by unfold Z59;split<;>decide,by unfold Z59;split<;>simp⟩
theorem zero_no (z:Int):(32:UInt8) ∉ Z4a z∧Z4a z≠[]:=by
 unfold Z4a;split
 ·exact⟨by decide,by simp⟩
 ·exact⟨Z2n (by decide),Z4j _⟩
theorem sgn_no (c:UInt8) (hc:(32:UInt8)≠c) (l:List Z2):(32:UInt8) ∉ c::Z26 l∧c::Z26 l≠[]:=⟨fun q=>by
  rcases List.mem_cons.1 q with q | q
  ·exact hc q
  ·exact side_not (by decide) q,by simp⟩
theorem line_ok (l:List Zp) (t:Int) (h:Zi) (hc:chkC l=0) (h0:0≤t) (h1:t≤1099511627776) (k:HOk h):Z2f.f (txt (itemF l t h))=some ((⟨l,t,h⟩:Z6),0):=by
 unfold Z2f.f;obtain⟨la,ra⟩:=Z4m hc;have e1:=Z2h (n:=t) (by omega) (by omega);have e2:=Z5o k;have e3:=Z7h hc;have i32:∀ n,(32:UInt8) ∉ Lib.itoa n∧Lib.itoa n≠[]:=fun n=>⟨Z2n (by decide),Z4j n⟩
 have sp:=splitN_eq (txt (itemF l t h)) 32 9 (Lib.itoa t::(Z64 h++[45::Z26 h.f7])) (Z2a l) (Z1r _) (by simp[Z64]) (fun w hw=>by
  simp only[Z64,List.cons_append,List.nil_append,List.mem_cons,List.not_mem_nil,or_false] at hw;rcases hw with rfl | rfl | rfl | rfl | rfl | rfl | rfl | rfl
  ·exact i32 _
  ·exact kind_no _
  ·exact i32 _
  ·exact zero_no _
  ·exact i32 _
  ·exact i32 _
  ·exact sgn_no 43 (by decide) _
  ·exact sgn_no 45 (by decide) _) (by rw[Z0q,itemF_eq];simp;omega)
 have hj:Za.f [txt (Z59 h.f0),txt (Lib.itoa h.f1),txt (Z4a h.f2),txt (Lib.itoa h.f3),txt (Lib.itoa h.f5),txt (43::Z26 h.f6),txt (45::Z26 h.f7)] (⟨#[32]⟩:ByteArray)=some (txt (Z65 h)):=by
  have g1:=Z3c k.pos;have g2:=Z3c k.neg;have g3:=kind_len h.f0;have g4:=zero_len k;have g5:=k.s1;have g6:=k.s3;have g7:=k.s5;rw[fjoin _ 32 (by simp) (fun w hw=>by
   simp only[List.mem_cons,List.not_mem_nil,or_false] at hw;rcases hw with rfl | rfl | rfl | rfl | rfl | rfl | rfl<;>rw[Z0q]<;>(try simp only[List.length_cons])<;>omega)]
  simp only[List.map_cons,List.map_nil,Z1r];exact congrArg (fun l=>some (txt l)) (joinS_T 32 (Z64 h) (45::Z26 h.f7))
 simp only[Z64,List.cons_append,List.nil_append,List.map_cons,List.map_nil] at sp;obtain⟨y,f,ep,_,hp⟩:=parse_spec (txt (Z2a l)) (by rw[Z0q];omega);obtain⟨hy,hf0⟩:=hp l hc (Z1r _);rw[sp,sb,if_neg (by simp),show at? (txt (Lib.itoa t)::_) 0=some (txt (Lib.itoa t)) from rfl,sb,Z3u _ t (Z1r _) (by omega) (by omega),sb];dsimp only;rw[if_neg (by simp),if_neg (by simp;omega),sb,if_neg (by simp;omega),chkB (by simp)];rw[show(List.take (Int.toNat 8-Int.toNat 1) (List.drop (Int.toNat 1) [txt (Lib.itoa t),txt (Z59 h.f0),txt (Lib.itoa h.f1),txt (Z4a h.f2),txt (Lib.itoa h.f3),txt (Lib.itoa h.f5),txt (43::Z26 h.f6),txt (45::Z26 h.f7),txt (Z2a l)]))=[txt (Z59 h.f0),txt (Lib.itoa h.f1),txt (Z4a h.f2),txt (Lib.itoa h.f3),txt (Lib.itoa h.f5),txt (43::Z26 h.f6),txt (45::Z26 h.f7)] from rfl,hj,sb,read_ok h k,sb];dsimp only;rw[if_neg (by simp),show at? [txt (Lib.itoa t),txt (Z59 h.f0),txt (Lib.itoa h.f1),txt (Z4a h.f2),txt (Lib.itoa h.f3),txt (Lib.itoa h.f5),txt (43::Z26 h.f6),txt (45::Z26 h.f7),txt (Z2a l)] 8=some (txt (Z2a l)) from rfl,sb,ep,sb,hy,hf0,if_neg (by simp)]
theorem awake21:Z0n.f=some true:=by cbv
theorem light21 (h:Zi):Z2y.f h=some (decide (h.f6.length≤200∧h.f7.length≤200)):=by
 unfold Z2y.f;by_cases h1:h.f6.length≤200
 ·rw[if_pos (by simp;omega),sb]
  congr 1;rw[Bool.eq_iff_iff];simp;omega
 ·rw[if_neg (by simp;omega),sb]
  congr 1;rw[Bool.eq_iff_iff];simp;omega
theorem item_any (l:List Zp) (t:Int) (h:Zi) (ht:I64 t) (hf:Fits h) (h6:h.f6.length≤200) (h7:h.f7.length≤200) {r:Int} (e1:Zu.f h=some r) (e2:r=0↔Valid h) :
  ∃ s,        Z1x.f ⟨l,t,h⟩=some (s,if chkC l≠0 then chkC l else if t<0∨1099511627776<t then 4 else r) ∧
   (chkC l=0→0≤t→t≤1099511627776→r=0→s=txt (itemF l t h))∧(¬ (chkC l=0∧0≤t∧t≤1099511627776∧r=0)→s=(⟨#[]⟩:ByteArray)):=by
 by_cases hc:chkC l=0
 case neg =>
  refine⟨(⟨#[]⟩:ByteArray),?_,fun q=>absurd q hc,fun _=>rfl⟩;unfold Z1x.f;rw[lcheck,sb,if_pos (by simpa using hc),if_pos hc]
 by_cases hr:t<0∨1099511627776<t
 case pos =>
  refine⟨(⟨#[]⟩:ByteArray),?_,fun _ _ _=>by omega,fun _=>rfl⟩;unfold Z1x.f;have:((if(decide (t<(0:Int)))=true then(some true) else(some (decide (t>(1099511627776:Int))))):Option (Bool))=some true:=by
   by_cases h0:t<0
   ·rw[if_pos (by simpa using h0)]
   ·rw[if_neg (by simpa using h0)];simp;omega
  rw[lcheck,sb];dsimp only;rw[hc,if_neg (by simp),this,sb,if_pos rfl,if_neg (by simp),if_pos hr]
 by_cases h0:r=0
 case pos =>
  subst h0;refine⟨txt (itemF l t h),?_,fun _ _ _ _=>rfl,fun q=>absurd ⟨hc,by omega,by omega,rfl⟩ q⟩;rw[fItem_ok l t h hc (by omega) (by omega) ⟨hf,e2.1 rfl⟩,if_neg (by simpa using hc),if_neg hr]
 ·refine⟨(⟨#[]⟩:ByteArray),?_,fun _ _ _ q=>absurd q h0,fun _=>rfl⟩
  unfold Z1x.f;rw[lcheck,sb];dsimp only;rw[hc,if_neg (by simp),if_neg (by simp;omega),sb,if_neg (by simp;omega),fHist_no h e1 h0,sb];dsimp only;rw[if_pos (by simpa using h0),if_neg (by simp),if_neg hr]
theorem Z86 (l:List Zp) (t:Int) (h:Zi) (hl:l.length<10000000000000) (ht:I64 t) (hf:Fits h):Z20.f ⟨l,t,h⟩=some true:=by
 unfold Z20.f;obtain⟨b,eb⟩:=light10 l hl;dsimp only;rw[eb,sb,light21,sb];have hg:((if(!b)=true then(some true) else(some (!(decide (h.f6.length≤200∧h.f7.length≤200))))):Option (Bool))=some (!b || !(decide (h.f6.length≤200∧h.f7.length≤200))):=by cases b<;>rfl
 rw[hg,sb];by_cases hx:(!b || !(decide (h.f6.length≤200∧h.f7.length≤200)))=true
 ·rw[if_pos hx,awake21,sb]
 rw[if_neg hx];have hlen:h.f6.length≤200∧h.f7.length≤200:=by
  simp only[Bool.or_eq_true,not_or,Bool.not_eq_true',decide_eq_false_iff_not,Decidable.not_not] at hx;exact hx.2
 obtain⟨h6,h7⟩:=hlen;obtain⟨r,c1,c2,c3⟩:=check_same h hf (by omega) (by omega);obtain⟨s,i1,i2,i3⟩:=item_any l t h ht hf h6 h7 c1 c3;have hD:∃ x,Z1p.f h=some (x,r)∧(r=0→x=txt (Z65 h)):=by
  by_cases h0:r=0
  ·subst h0;exact⟨_,fHist_ok h ⟨hf,c3.1 rfl⟩,fun _=>rfl⟩
  ·exact⟨_,fHist_no h c1 h0,fun q=>absurd q h0⟩
 obtain⟨x,d1,d2⟩:=hD;rw[i1,sb,d1,sb];dsimp only;by_cases hw:chkC l=0∧0≤t∧t≤1099511627776∧r=0
 case neg =>
  have:(if chkC l≠0 then chkC l else if t<0∨1099511627776<t then 4 else r)≠0:=by
   by_cases hc:chkC l=0
   ·rw[if_neg (by simpa using hc)]
    by_cases hr:t<0∨1099511627776<t
    ·rw[if_pos hr];omega
    ·rw[if_neg hr];intro q;exact hw ⟨hc,by omega,by omega,q⟩
   ·rw[if_pos hc];exact hc
  rw[if_pos (by simpa using this),awake21,sb]
 obtain⟨q1,q2,q3,q4⟩:=hw;have k:HOk h:=⟨hf,c3.1 q4⟩
 obtain⟨la,ra⟩:=Z4m q1;have e1:=Z2h (n:=t) (by omega) (by omega);have e2:=Z5o k;have e3:=Z7h q1;have s1:(txt (Lib.itoa t)).size≤21:=by rw[Z0q];exact e1
 have s2:(txt (Z65 h)).size≤60000:=by rw[Z0q];exact e2
 have s3:(txt (Z2a l)).size≤3300:=by rw[Z0q];exact e3
 have z32:(⟨#[32]⟩:ByteArray).size=1:=rfl;have fin:txt (Lib.itoa t)++(⟨#[32]⟩:ByteArray)++txt (Z65 h)++(⟨#[32]⟩:ByteArray)++txt (Z2a l)=txt (itemF l t h):=Z3s (by
  rw[itemF_eq];simp only[Z1h,Z1r])
 have hp:Z0j.f l=some (txt (Z2a l)):=rprint l la (Z55 ra);rw[if_neg (by simp[q1,q4];omega),d2 q4,read_ok h k,sb,i2 q1 q2 q3 q4,line_ok l t h q1 q2 q3 k,sb,awake21,sb,if_pos rfl];dsimp only;rw[if_pos (by simpa using q4),if_pos (by simp),if_pos (by simp),refW t (by omega) (by omega),sb,chkB (by(try simp only[ByteArray.size_append]);omega),chkB (by(try simp only[ByteArray.size_append]);omega),chkB (by(try simp only[ByteArray.size_append]);omega),hp,sb,chkB (by(try simp only[ByteArray.size_append]);omega),fin,if_pos (by simp),rSame_eq h h (by omega) (by omega),sb,if_pos (by simp),sb];simp
theorem feedParts_R (a:Z6) (ha:Z81 a):Z20.f a=some true:=by
 obtain⟨l,t,h⟩:=a;exact Z86 l t h (by have:=ha.r0.1;simp at this;omega) ha.r1 (fits_of ha.r2)
end Go.Proofs.YtlkonkfkapdimaaGreatDoor.PvGR
