import Derived.Test.YtcilcefjcaimoaaGreatPxGroupOnes19
set_option linter.unusedVariables false
set_option linter.unusedSimpArgs false
set_option maxRecDepth 10000
namespace Go.Proofs.YtcilcefjcaimoaaGreat.PvGQ
open Go Go.Pv Go.Pv.GS
theorem sCmpB:CmpB Zm.f bl:=fun a b=>⟨_,by unfold Zm.f Z0m.f;simp[sb],rfl⟩
theorem bl_swo:SWO bl:=⟨fun a b h=>bl_asymm h,fun a b c h1 h2=>bl_ntrans h1 h2⟩
theorem ssort_inst:Z2v.f=oSortF.f Zm.f:=by kernel_rfl
theorem ssort (l:List ByteArray) (hl:l.length<1000000000):∃ r,Z2v.f l=some r∧r.Perm l∧r.Pairwise (fun a b=>bl b a=false):=by
 obtain⟨r,e,h1,h2⟩:=o_sortF sCmpB bl_swo l hl;rw[ssort_inst];exact⟨r,e,h1,h2⟩
def ddS (acc:List ByteArray) (y:ByteArray):List ByteArray:=if acc.getLast? = some y then acc else acc++[y]
def dd (l:List ByteArray):List ByteArray:=l.foldl ddS []
theorem dd_snoc (l:List ByteArray) (y:ByteArray):dd (l++[y])=ddS (dd l) y:=by simp[dd,List.foldl_append]
theorem snoc_ind {α:Type} {P:List α→Prop} (h0:P []) (h1:∀ l x,P l→P (l++[x])) (l:List α):P l:=by
 have:∀ (n:Nat) (l:List α),l.length=n→P l:=by
  intro n
  induction n with
  | zero=>intro l hl;rw[List.length_eq_zero_iff.1 hl];exact h0
  | succ n ih =>
   intro l hl;rcases List.eq_nil_or_concat l with rfl | ⟨P',p,rfl⟩
   ·simp at hl
   ·simp only[List.concat_eq_append] at hl ⊢
    exact h1 _ _ (ih _ (by simpa using hl))
 exact this _ l rfl
theorem dd_last (l:List ByteArray):(dd l).getLast? = l.getLast? := by
 refine snoc_ind (P:=fun l=>(dd l).getLast? = l.getLast?) rfl (fun l x _ => ?_) l;rw[dd_snoc];unfold ddS;split
 ·rename_i h;rw[h];simp
 ·simp
theorem dd_mem (l:List ByteArray):∀ x,x∈dd l↔x∈l:=by
 refine snoc_ind (P:=fun l=>∀ x,x∈dd l↔x∈l) (fun x=>by simp[dd]) (fun l y ih x => ?_) l;rw[dd_snoc];unfold ddS;split
 ·rename_i h
  rw[List.mem_append,← ih];refine⟨.inl,fun h' => ?_⟩;rcases h' with h' | h'
  ·exact h'
  ·simp at h';subst h';exact List.mem_of_getLast? h
 ·rw[List.mem_append,List.mem_append,ih]
theorem dd_len (l:List ByteArray):(dd l).length≤l.length:=by
 refine snoc_ind (P:=fun l=>(dd l).length≤l.length) (Nat.le_refl _) (fun l y ih => ?_) l;rw[dd_snoc];unfold ddS;split
 ·simp;omega
 ·simp;omega
theorem Z8p {α:Type} (l:List α) (m:Nat) (h:m<l.length):l.take (m+1)=l.take m++[l[m]]:=by rw[List.take_succ_eq_append_getElem h]
theorem last_take {α:Type} (l:List α) (m:Nat) (h:m<l.length):(l.take (m+1)).getLast? = some l[m]:=by rw[Z8p l m h,List.getLast?_concat]
theorem dd_step (l:List ByteArray) (m:Nat) (h:m+1<l.length):dd (l.take (m+2))=if l[m+1]=l[m] then dd (l.take (m+1)) else dd (l.take (m+1))++[l[m+1]]:=by
 rw[Z8p l (m+1) h,dd_snoc];unfold ddS;rw[dd_last,last_take l m (by omega)];by_cases e:l[m+1]=l[m]
 ·rw[if_pos (by rw[e]),if_pos e]
 ·rw[if_neg (fun q=>e (Option.some.inj q).symm),if_neg e]
theorem compact_l1 (a:List ByteArray) (k:Nat) (hk:1≤k) (ha:a.length<1000000000) (hkl:k<a.length):∀ (n k2:Nat) (x:List ByteArray) (w:Nat),k2+n=a.length-k→1≤k2→x.length=a.length→w≤k+k2-1→x.take w=dd (a.take (k+k2))→(dd (a.take (k+k2))).length=w→x.drop (k+k2-1)=a.drop (k+k2-1) →
  ∃ x',Zp.l1 a (k:Int) x (w:Int) (k2:Int)=some (x',((dd a).length:Int))∧x'.length=a.length∧x'.take (dd a).length=dd a:=by
 intro n
 induction n with
 | zero =>
  intro k2 x w h1 h2 hx hw ht hlw hd;have e:a.take (k+k2)=a:=List.take_of_length_le (by omega);rw[e] at ht hlw;rw[Zp.l1,if_neg (by simp;omega)];exact⟨x,by rw[hlw],hx,by rw[hlw,ht]⟩
 | succ n ih =>
  intro k2 x w h1 h2 hx hw ht hlw hd;obtain⟨m,hm⟩:∃ m,k+k2=m+1:=⟨k+k2-1,by omega⟩
  have hm1:m+1<a.length:=by omega
  rw[hm] at ht hlw;have hdg:∀ i,m≤i→x[i]? = a[i]? := fun i hi=>by
   have:=congrArg (fun l=>l[i-m]?) hd;simp only[List.getElem?_drop,hm,show m+1-1+(i-m)=i from by omega] at this;exact this
  have g1:x[m+1]? = some a[m+1]:=by rw[hdg _ (by omega)];exact List.getElem?_eq_getElem hm1
  have g2:x[m]? = some a[m]:=by rw[hdg _ (Nat.le_refl _)];exact List.getElem?_eq_getElem (by omega)
  have st:=dd_step a m hm1;rw[Zp.l1];simp only[Int.toNat_natCast];rw[if_pos (by simp;omega),chkB ⟨by omega,by omega⟩,Z6c (l:=x) (k:=m+1) (by rw[hm]) g1,sb,Zh (n:=(k2:Int)-1) (by omega) (by omega),show((k2:Int)-1)=((k2-1:Nat):Int) from by omega,chkB ⟨by omega,by omega⟩];simp only[Int.toNat_natCast];rw[Z6c (l:=x) (k:=m) (by rw[show k+(k2-1)=m from by omega]) g2,sb,eqB,Zh (n:=(k2:Int)+1) (by omega) (by omega),show((k2:Int)+1)=((k2+1:Nat):Int) from by omega];have hdrop:(x.drop (k+(k2+1)-1))=a.drop (k+(k2+1)-1):=by
   rw[show k+(k2+1)-1=m+1 from by omega];apply List.ext_getElem?;intro i;rw[List.getElem?_drop,List.getElem?_drop];exact hdg _ (by omega)
  by_cases e:a[m+1]=a[m]
  ·rw[if_neg (by simp[e]),sb]
   dsimp only;rw[if_pos e] at st;exact ih (k2+1) x w (by omega) (by omega) hx (by omega) (by rw[ht,show k+(k2+1)=m+2 from by omega,st]) (by rw[show k+(k2+1)=m+2 from by omega,st];exact hlw) hdrop
  ·rw[if_neg e] at st
   have hwx:w<x.length:=by omega
   rw[if_pos (by simp[e]),Z6c (l:=x) (k:=w) rfl (List.getElem?_eq_getElem hwx),sb,sb,Zh (n:=(w:Int)+1) (by omega) (by omega),show((w:Int)+1)=((w+1:Nat):Int) from by omega];dsimp only;refine ih (k2+1) (x.set w a[m+1]) (w+1) (by omega) (by omega) (by simp[hx]) (by omega) ?_ ?_ ?_
   ·rw[show k+(k2+1)=m+2 from by omega,st,← ht]
    rw[List.take_set,Z8p x w hwx,List.set_append,if_neg (by simp;omega)];simp[Nat.min_eq_left (Nat.le_of_lt hwx)]
   ·rw[show k+(k2+1)=m+2 from by omega,st,List.length_append,hlw];rfl
   ·rw[List.drop_set_of_lt (by omega)];exact hdrop
theorem compact_l0 (a:List ByteArray) (ha:a.length<1000000000) (h2:2≤a.length):∀ (n k:Nat),k+n=a.length→1≤k→dd (a.take k)=a.take k →
  Zp.l0 a (k:Int)=some (.inl (dd a))∨(Zp.l0 a (k:Int)=some (.inr ())∧dd a=a):=by
 intro n
 induction n with
 | zero =>
  intro k h1 hk hd;rw[Zp.l0,if_neg (by simp;omega)];rw[List.take_of_length_le (by omega)] at hd;exact .inr ⟨rfl,hd⟩
 | succ n ih =>
  intro k h1 hk hd;obtain⟨m,rfl⟩:∃ m,k=m+1:=⟨k-1,by omega⟩
  have hm1:m+1<a.length:=by omega
  have st:=dd_step a m hm1;rw[Zp.l0,if_pos (by simp;omega),Z6c (k:=m+1) rfl (List.getElem?_eq_getElem hm1),sb,Zh (n:=((m+1:Nat):Int)-1) (by omega) (by omega),Z6c (k:=m) (by omega) (List.getElem?_eq_getElem (by omega)),sb,eqB];by_cases e:a[m+1]=a[m]
  ·rw[if_pos (by simp[e]),chkB ⟨by omega,by omega⟩]
   rw[if_pos e] at st;have hlt:(a.take (m+1)).length=m+1:=by simp;omega
   obtain⟨x',e1,e2,e3⟩:=compact_l1 a (m+1) (by omega) ha hm1 (a.length-(m+1)-1) 1 a (m+1) (by omega) (by omega) rfl (by omega) (by rw[st,hd]) (by rw[st,hd];exact hlt) rfl;have hdl:=dd_len a;rw[show(1:Int)=((1:Nat):Int) from rfl,e1,sb];dsimp only;simp only[Int.toNat_natCast];rw[chkB ⟨by omega,by omega⟩,chkB ⟨by omega,by simp;omega⟩];refine .inl ?_;congr 2;rw[List.take_append_of_le_length (by simp;omega),List.take_take,Nat.min_self,e3]
  ·rw[if_neg (by simp[e]),Zh     (by omega) (by omega)]
   rw[if_neg e,hd] at st;exact ih (m+2) (by omega) (by omega) (by rw[st,Z8p a (m+1) hm1])
theorem compact_eq (a:List ByteArray) (ha:a.length<1000000000):Zp.f a=some (dd a):=by
 unfold Zp.f;by_cases h2:a.length<2
 ·rw[if_pos (by simp;omega)]
  match a,h2 with
  | [],_=>rfl
  | [x],_=>rfl
 ·rw[if_neg (by simp;omega)]
  have h1:dd (a.take 1)=a.take 1:=by
   match a,h2 with
   | x::_,_=>rfl
  rcases compact_l0 a ha (by omega) (a.length-1) 1 (by omega) (Nat.le_refl _) h1 with e | ⟨e,e2⟩
  ·rw[show(1:Int)=((1:Nat):Int) from rfl,e,sb]
  ·rw[show(1:Int)=((1:Nat):Int) from rfl,e,sb,e2]
theorem chkC_len {l:List Zo} (h:chkC l=0):l.length≤16:=by
 unfold chkC at h;split at h
 ·simp at h
 ·omega
theorem names_l1 (l:List Zr) (s:Zr) (c:Int) (hs:s.f0.length≤16):∀ (suf pre:List Zo) (o:List ByteArray) (i:Int),s.f0=pre++suf→i=(pre.length:Int)→o.length+suf.length≤1000000→Z12.l1 l s c o i=some (o++suf.map (·.f0)):=by
 intro suf
 induction suf with
 | nil=>intro pre o i h1 hi ho;rw[Z12.l1,if_neg (by rw[h1];simp[hi])];simp
 | cons x suf ih =>
  intro pre o i h1 hi ho;have hlen:s.f0.length=pre.length+(suf.length+1):=by rw[h1];simp
  simp only[List.length_cons] at ho;rw[Z12.l1,if_pos (by simp;omega),Z0t h1 hi,sb,chkB (by simp;omega),Zh (by omega) (by omega),ih (pre++[x]) (o++[x.f0]) (i+1) (by simp[h1]) (by simp;omega) (by simp;omega)];simp
def allN (l:List Zr):List ByteArray:=l.flatMap fun s=>s.f0.map (·.f0)
theorem names_l0 (l:List Zr) (hl:l.length≤400) (hs:∀ s∈l,s.f0.length≤16):∀ (suf pre:List Zr) (o:List ByteArray) (i:Int),l=pre++suf→i=(pre.length:Int)→o.length≤16*pre.length→Z12.l0 l o i=some (o++allN suf):=by
 intro suf
 induction suf with
 | nil=>intro pre o i h1 hi ho;rw[Z12.l0,if_neg (by rw[h1];simp[hi])];simp[allN]
 | cons s suf ih =>
  intro pre o i h1 hi ho;have hlen:l.length=pre.length+(suf.length+1):=by rw[h1];simp
  have h16:=hs s (by rw[h1];simp);rw[Z12.l0,if_pos (by simp;omega),Z0t h1 hi,sb,names_l1 l s i h16 s.f0 [] o 0 rfl rfl (by omega),sb,Zh (by omega) (by omega),ih (pre++[s]) _ (i+1) (by simp[h1]) (by simp;omega) (by simp;omega)];simp[allN]
theorem allN_len:∀ l:List Zr,(∀ s∈l,s.f0.length≤16)→(allN l).length≤16*l.length
 | [],_=>by simp[allN]
 | s::l,h=>by
  have:=allN_len l (fun s hs=>h s (by simp[hs]));have:=h s (by simp);simp only[allN,List.flatMap_cons,List.length_append,List.length_map,List.length_cons] at *;omega
theorem names_eq (l:List Zr) (hl:l.length≤400) (hs:∀ s∈l,s.f0.length≤16):∃ N,Z12.f l=some N∧N.length≤6400∧∀ x,x∈N↔x∈allN l:=by
 have hlen:=allN_len l hs;obtain⟨r,e,hp,_⟩:=ssort (allN l) (by omega);have hr:=hp.length_eq;refine⟨dd r,?_,?_,fun x => ?_⟩
 ·unfold           Z12.f
  rw[names_l0 l hl hs l [] [] 0 rfl rfl (by simp),sb,List.nil_append,e,sb,compact_eq r (by omega),sb]
 ·have:=dd_len r;omega
 ·rw[dd_mem,hp.mem_iff]
theorem ra_inj {x y:Z7} (h:ra x=ra y):x=y:=by
 cases x;cases y;rename_i a b c d e a' b' c' d' e';cases d;cases e;cases d';cases e';simp[ra] at h
 simp_all
theorem ones_l0 (X:List Z2w) (Z:(List Z2w)×Int) (hl:X.length≤400) (h:∀ r∈X,Z6f r.f1.f0∧r.f0.length≤1048576):∀ (suf pre:List Z2w) (i:Int),X=pre++suf→i=(pre.length:Int)→Z1p.l0 (X,0) (X,0) Z i=some (.inr ()):=by
 intro suf
 induction suf with
 | nil=>intro pre i h1 hi;rw[Z1p.l0,if_neg (by rw[h1];simp[hi])]
 | cons r suf ih =>
  intro pre i h1 hi;have hlen:X.length=pre.length+(suf.length+1):=by rw[h1];simp
  obtain⟨hs,hf⟩:=h r (by rw[h1];simp);rw[Z1p.l0];dsimp only;rw[if_pos (by simp;omega),Z0t h1 hi,sb,sb,rcmp _ _ (by omega) (by omega),Z6a,sb,if_neg (by simp),if_neg (by simp),esame_self r.f1 hs,sb,sb,if_neg (by simp),Zh (by omega) (by omega)];exact ih (pre++[r]) (i+1) (by simp[h1]) (by simp;omega)
theorem row_same (a:Z1r) (l:List Zr) (h:Ser l) (hp:U64 a.f1) (ho:U64 a.f2) (N:List ByteArray) (hN:∀ s∈l,keyL true N s.f0=s.f0) (k:List Zo):rowP a true N l k=rowP a false [] l k:=by
 have hg:grp (fun s=>keyL true N s.f0) l k=grp (fun s=>keyL false [] s.f0) l k:=by
  unfold grp;refine List.filter_congr (fun s hs => ?_);show decide (keyL true N s.f0=k)=decide (s.f0=k);rw[hN s hs]
 unfold rowP;rw[hg];obtain⟨_,e1,_⟩:=oneP_eq a true N (grp (fun s=>keyL false [] s.f0) l k) (Nat.le_trans (Zbo ..) h.len) (fun s hs=>h.lit s (Z9s hs).1) hp ho;obtain⟨_,e2,_⟩:=oneP_eq a false [] (grp (fun s=>keyL false [] s.f0) l k) (Nat.le_trans (Zbo ..) h.len) (fun s hs=>h.lit s (Z9s hs).1) hp ho;rw[e1] at e2;obtain⟨q1,q2⟩:=Prod.mk.inj (Option.some.inj e2);rw[ra_inj q1,q2]
theorem groupOnes_R (a0:Z1r) (a1:List Zr) (R0:Rr19_Ask a0) (R1:RL a1):Z1p.f a0 a1=some true:=by
 unfold Z1p.f;obtain⟨b,eb,hb⟩:=light20 a1 R1;rw[eb,awake20,sb];cases b
 case false=>rw[if_pos (by simp),sb,if_pos rfl,sb]
 rw[if_neg (by simp)];by_cases hg:a0.f0<0∨a0.f0>5
 ·have:((if(decide (a0.f0<(0:Int)))=true then(some true) else(some (decide (a0.f0>(5:Int))))):Option Bool)=some true:=by
   by_cases c1:a0.f0<0
   ·rw[if_pos (by simpa using c1)]
   ·rw[if_neg (by simpa using c1),decide_eq_true (by omega)]
  rw[this,sb,if_pos rfl,sb]
 have:((if(decide (a0.f0<(0:Int)))=true then(some true) else(some (decide (a0.f0>(5:Int))))):Option Bool)=some false:=by
  rw[if_neg (by simp;omega),decide_eq_false (by omega)]
 rw[this,sb,if_neg (by simp)];obtain⟨hS,hG⟩:=hb rfl;have hsl:=hS.len;obtain⟨N,eN,hNl,hNm⟩:=names_eq a1 hsl (fun s hs=>chkC_len (hG.ok s hs).1);have hN:∀ s∈a1,keyL true N s.f0=s.f0:=fun s hs=>by
  unfold keyL;rw[if_pos rfl];refine List.filter_eq_self.2 (fun x hx=>memB_mem ((hNm _).2 ?_));exact List.mem_flatMap.2 ⟨s,hs,List.mem_map.2 ⟨x,hx,rfl⟩⟩
 obtain⟨ks,hk,e⟩:=of_eq a0 false [] (by simp) a1 hS R0.r1 R0.r2 (by omega);obtain⟨kt,ht,et⟩:=of_eq a0 true N (by omega) a1 hS R0.r1 R0.r2 (by omega);obtain⟨kz,hz,ez⟩:=of_eq a0 true [] (by simp) a1 hS R0.r1 R0.r2 (by omega);obtain⟨q1,q2⟩:=rows_small a0 false [] a1 hS R0.r1 R0.r2 ks hk;have hkt:kt=ks:=by
  refine Z9f _ _ ht.up hk.up (fun k => ?_);rw[ht.mem,hk.mem];constructor
  ·rintro⟨s,hs,e⟩
   have e:keyL true N s.f0=k:=e;exact⟨s,hs,by rw[hN s hs] at e;exact e⟩
  ·rintro⟨s,hs,e⟩
   have e:s.f0=k:=e;refine⟨s,hs,?_⟩;show keyL true N s.f0=k;rw[hN s hs];exact e
 have hrows:kt.map (rowP a0 true N a1)=ks.map (rowP a0 false [] a1):=by
  rw[hkt];exact List.map_congr_left (fun k _=>row_same a0 a1 hS R0.r1 R0.r2 N hN k)
 have hkz:kz=if a1=[] then [] else [[]]:=by
  refine Z9f _ _ hz.up (by split<;>simp) (fun k => ?_);rw[hz.mem];have hnil:∀ s:Zr,keyL true [] s.f0=[]:=fun s=>by
   unfold keyL;rw[if_pos rfl];simp[memB]
  constructor
  ·rintro⟨s,hs,e⟩
   have e:keyL true [] s.f0=k:=e;rw[hnil] at e;rw[if_neg (by rintro rfl;simp at hs)];simp[e]
  ·intro h
   split at h
   ·simp at h
   ·rename_i hne
    simp at h;subst h;obtain⟨s,hs⟩:=List.exists_mem_of_ne_nil _ hne;exact⟨s,hs,hnil s⟩
 unfold Z61.f Z91.f;rw[sb,sb];dsimp only;rw[e,sb,eN,sb,sb];dsimp only;rw[et,sb,sb];dsimp only;rw[ez,sb,hrows];dsimp only;have hlz:((kz.map (rowP a0 true [] a1)).length:Int)=(if(a1.length:Int)<(1:Int) then(a1.length:Int) else(1:Int)):=by
  rw[hkz];cases a1 with
  | nil=>rfl
  | cons s l=>rw[if_neg (by simp),if_neg (by simp;omega)];rfl
 rw[if_neg (by simp),if_neg (by simp),if_neg (by simp),if_neg (by simp),hlz,sb,if_neg (by simp),ones_l0 _ _ q1 q2 _ [] 0 rfl rfl,sb];dsimp only;rw[sb,if_pos rfl,← hlz,hkz];cases a1 with
 | nil=>rfl
 | cons s l=>rfl
end Go.Proofs.YtcilcefjcaimoaaGreat.PvGQ
