import Derived.Test.YtcilcefjcaimoaaGreatPxGroupTops16
set_option linter.unusedVariables false
set_option linter.unusedSimpArgs false
set_option maxRecDepth 10000
namespace Go.Proofs.YtcilcefjcaimoaaGreat.PvGQ
open Go Go.Pv Go.Pv.GS Go.IntKind
theorem sCmpB:CmpB Zq.f bl:=fun a b=>⟨_,by unfold Zq.f Z0k.f;simp[sb],rfl⟩
theorem bl_swo:SWO bl:=⟨fun a b h=>bl_asymm h,fun a b c h1 h2=>bl_ntrans h1 h2⟩
theorem ssort_inst:Z15.f=oSortF.f Zq.f:=by kernel_rfl
theorem ssort (l:List ByteArray) (hl:l.length<1000000000):∃ r,Z15.f l=some r∧r.Perm l∧r.Pairwise (fun a b=>bl b a=false):=by
 obtain⟨r,e,h1,h2⟩:=o_sortF sCmpB bl_swo l hl;rw[ssort_inst];exact⟨r,e,h1,h2⟩
def ddS (acc:List ByteArray) (y:ByteArray):List ByteArray:=if acc.getLast? = some y then acc else acc++[y]
def dd (l:List ByteArray):List ByteArray:=l.foldl ddS []
theorem Z9s (l:List ByteArray) (y:ByteArray):dd (l++[y])=ddS (dd l) y:=by simp[dd,List.foldl_append]
theorem Z8j {α:Type} {P:List α→Prop} (h0:P []) (h1:∀ l x,P l→P (l++[x])) (l:List α):P l:=by
 have:∀ (n:Nat) (l:List α),l.length=n→P l:=by
  intro n
  induction n with
  | zero=>intro l hl;rw[List.length_eq_zero_iff.1 hl];exact h0
  | succ n ih =>
   intro l hl;rcases List.eq_nil_or_concat l with rfl | ⟨P',p,rfl⟩
   ·simp at hl
   ·simp only[List.concat_eq_append] at hl ⊢
    exact h1 _ _ (ih _ (by simpa using hl))
 exact this _ l rfl
theorem dd_last (l:List ByteArray):(dd l).getLast? = l.getLast? := by
 refine Z8j (P:=fun l=>(dd l).getLast? = l.getLast?) rfl (fun l x _ => ?_) l;rw[Z9s];unfold ddS;split
 ·rename_i h;rw[h];simp
 ·simp
theorem dd_mem (l:List ByteArray):∀ x,x∈dd l↔x∈l:=by
 refine Z8j (P:=fun l=>∀ x,x∈dd l↔x∈l) (fun x=>by simp[dd]) (fun l y ih x => ?_) l;rw[Z9s];unfold ddS;split
 ·rename_i h
  rw[List.mem_append,← ih];refine⟨.inl,fun h' => ?_⟩;rcases h' with h' | h'
  ·exact h'
  ·simp at h';subst h';exact List.mem_of_getLast? h
 ·rw[List.mem_append,List.mem_append,ih]
theorem dd_len (l:List ByteArray):(dd l).length≤l.length:=by
 refine Z8j (P:=fun l=>(dd l).length≤l.length) (Nat.le_refl _) (fun l y ih => ?_) l;rw[Z9s];unfold ddS;split
 ·simp;omega
 ·simp;omega
theorem Z6y {α:Type} (l:List α) (m:Nat) (h:m<l.length):l.take (m+1)=l.take m++[l[m]]:=by rw[List.take_succ_eq_append_getElem h]
theorem last_take {α:Type} (l:List α) (m:Nat) (h:m<l.length):(l.take (m+1)).getLast? = some l[m]:=by rw[Z6y l m h,List.getLast?_concat]
theorem dd_step (l:List ByteArray) (m:Nat) (h:m+1<l.length):dd (l.take (m+2))=if l[m+1]=l[m] then dd (l.take (m+1)) else dd (l.take (m+1))++[l[m+1]]:=by
 rw[Z6y l (m+1) h,Z9s];unfold ddS;rw[dd_last,last_take l m (by omega)];by_cases e:l[m+1]=l[m]
 ·rw[if_pos (by rw[e]),if_pos e]
 ·rw[if_neg (fun q=>e (Option.some.inj q).symm),if_neg e]
theorem compact_l1 (a:List ByteArray) (k:Nat) (hk:1≤k) (ha:a.length<1000000000) (hkl:k<a.length):∀ (n k2:Nat) (x:List ByteArray) (w:Nat),k2+n=a.length-k→1≤k2→x.length=a.length→w≤k+k2-1→x.take w=dd (a.take (k+k2))→(dd (a.take (k+k2))).length=w→x.drop (k+k2-1)=a.drop (k+k2-1) →
  ∃ x',Zp.l1 a (k:Int) x (w:Int) (k2:Int)=some (x',((dd a).length:Int))∧x'.length=a.length∧x'.take (dd a).length=dd a:=by
 intro n
 induction n with
 | zero =>
  intro k2 x w h1 h2 hx hw ht hlw hd;have e:a.take (k+k2)=a:=List.take_of_length_le (by omega);rw[e] at ht hlw;rw[Zp.l1,if_neg (by simp;omega)];exact⟨x,by rw[hlw],hx,by rw[hlw,ht]⟩
 | succ n ih =>
  intro k2 x w h1 h2 hx hw ht hlw hd;obtain⟨m,hm⟩:∃ m,k+k2=m+1:=⟨k+k2-1,by omega⟩
  have hm1:m+1<a.length:=by omega
  rw[hm] at ht hlw;have hdg:∀ i,m≤i→x[i]? = a[i]? := fun i hi=>by
   have:=congrArg (fun l=>l[i-m]?) hd;simp only[List.getElem?_drop,hm,show m+1-1+(i-m)=i from by omega] at this;exact this
  have g1:x[m+1]? = some a[m+1]:=by rw[hdg _ (by omega)];exact List.getElem?_eq_getElem hm1
  have g2:x[m]? = some a[m]:=by rw[hdg _ (Nat.le_refl _)];exact List.getElem?_eq_getElem (by omega)
  have st:=dd_step a m hm1;rw[Zp.l1];simp only[Int.toNat_natCast];rw[if_pos (by simp;omega),chkB ⟨by omega,by omega⟩,Z62 (l:=x) (k:=m+1) (by rw[hm]) g1,sb,Z08 (n:=(k2:Int)-1) (by omega) (by omega),show((k2:Int)-1)=((k2-1:Nat):Int) from by omega,chkB ⟨by omega,by omega⟩];simp only[Int.toNat_natCast];rw[Z62 (l:=x) (k:=m) (by rw[show k+(k2-1)=m from by omega]) g2,sb,eqB,Z08 (n:=(k2:Int)+1) (by omega) (by omega),show((k2:Int)+1)=((k2+1:Nat):Int) from by omega];have hdrop:(x.drop (k+(k2+1)-1))=a.drop (k+(k2+1)-1):=by
   rw[show k+(k2+1)-1=m+1 from by omega];apply List.ext_getElem?;intro i;rw[List.getElem?_drop,List.getElem?_drop];exact hdg _ (by omega)
  by_cases e:a[m+1]=a[m]
  ·rw[if_neg (by simp[e]),sb]
   dsimp only;rw[if_pos e] at st;exact ih (k2+1) x w (by omega) (by omega) hx (by omega) (by rw[ht,show k+(k2+1)=m+2 from by omega,st]) (by rw[show k+(k2+1)=m+2 from by omega,st];exact hlw) hdrop
  ·rw[if_neg e] at st
   have hwx:w<x.length:=by omega
   rw[if_pos (by simp[e]),Z62 (l:=x) (k:=w) rfl (List.getElem?_eq_getElem hwx),sb,sb,Z08 (n:=(w:Int)+1) (by omega) (by omega),show((w:Int)+1)=((w+1:Nat):Int) from by omega];dsimp only;refine ih (k2+1) (x.set w a[m+1]) (w+1) (by omega) (by omega) (by simp[hx]) (by omega) ?_ ?_ ?_
   ·rw[show k+(k2+1)=m+2 from by omega,st,← ht]
    rw[List.take_set,Z6y x w hwx,List.set_append,if_neg (by simp;omega)];simp[Nat.min_eq_left (Nat.le_of_lt hwx)]
   ·rw[show k+(k2+1)=m+2 from by omega,st,List.length_append,hlw];rfl
   ·rw[List.drop_set_of_lt (by omega)];exact hdrop
theorem compact_l0 (a:List ByteArray) (ha:a.length<1000000000) (h2:2≤a.length):∀ (n k:Nat),k+n=a.length→1≤k→dd (a.take k)=a.take k →
  Zp.l0 a (k:Int)=some (.inl (dd a))∨(Zp.l0 a (k:Int)=some (.inr ())∧dd a=a):=by
 intro n
 induction n with
 | zero =>
  intro k h1 hk hd;rw[Zp.l0,if_neg (by simp;omega)];rw[List.take_of_length_le (by omega)] at hd;exact .inr ⟨rfl,hd⟩
 | succ n ih =>
  intro k h1 hk hd;obtain⟨m,rfl⟩:∃ m,k=m+1:=⟨k-1,by omega⟩
  have hm1:m+1<a.length:=by omega
  have st:=dd_step a m hm1;rw[Zp.l0,if_pos (by simp;omega),Z62 (k:=m+1) rfl (List.getElem?_eq_getElem hm1),sb,Z08 (n:=((m+1:Nat):Int)-1) (by omega) (by omega),Z62 (k:=m) (by omega) (List.getElem?_eq_getElem (by omega)),sb,eqB];by_cases e:a[m+1]=a[m]
  ·rw[if_pos (by simp[e]),chkB ⟨by omega,by omega⟩]
   rw[if_pos e] at st;have hlt:(a.take (m+1)).length=m+1:=by simp;omega
   obtain⟨x',e1,e2,e3⟩:=compact_l1 a (m+1) (by omega) ha hm1 (a.length-(m+1)-1) 1 a (m+1) (by omega) (by omega) rfl (by omega) (by rw[st,hd]) (by rw[st,hd];exact hlt) rfl;have hdl:=dd_len a;rw[show(1:Int)=((1:Nat):Int) from rfl,e1,sb];dsimp only;simp only[Int.toNat_natCast];rw[chkB ⟨by omega,by omega⟩,chkB ⟨by omega,by simp;omega⟩];refine .inl ?_;congr 2;rw[List.take_append_of_le_length (by simp;omega),List.take_take,Nat.min_self,e3]
  ·rw[if_neg (by simp[e]),Z08    (by omega) (by omega)]
   rw[if_neg e,hd] at st;exact ih (m+2) (by omega) (by omega) (by rw[st,Z6y a (m+1) hm1])
theorem Zao (a:List ByteArray) (ha:a.length<1000000000):Zp.f a=some (dd a):=by
 unfold Zp.f;by_cases h2:a.length<2
 ·rw[if_pos (by simp;omega)]
  match a,h2 with
  | [],_=>rfl
  | [x],_=>rfl
 ·rw[if_neg (by simp;omega)]
  have h1:dd (a.take 1)=a.take 1:=by
   match a,h2 with
   | x::_,_=>rfl
  rcases compact_l0 a ha (by omega) (a.length-1) 1 (by omega) (Nat.le_refl _) h1 with e | ⟨e,e2⟩
  ·rw[show(1:Int)=((1:Nat):Int) from rfl,e,sb]
  ·rw[show(1:Int)=((1:Nat):Int) from rfl,e,sb,e2]
theorem chkC_len {l:List Z00} (h:chkC l=0):l.length≤16:=by
 unfold chkC at h;split at h
 ·simp at h
 ·omega
theorem names_l1 (l:List Zx) (s:Zx) (c:Int) (hs:s.f0.length≤16):∀ (suf pre:List Z00) (o:List ByteArray) (i:Int),s.f0=pre++suf→i=(pre.length:Int)→o.length+suf.length≤1000000→Z0v.l1 l s c o i=some (o++suf.map (·.f0)):=by
 intro suf
 induction suf with
 | nil=>intro pre o i h1 hi ho;rw[Z0v.l1,if_neg (by rw[h1];simp[hi])];simp
 | cons x suf ih =>
  intro pre o i h1 hi ho;have hlen:s.f0.length=pre.length+(suf.length+1):=by rw[h1];simp
  simp only[List.length_cons] at ho;rw[Z0v.l1,if_pos (by simp;omega),Z2w h1 hi,sb,chkB (by simp;omega),Z08 (by omega) (by omega),ih (pre++[x]) (o++[x.f0]) (i+1) (by simp[h1]) (by simp;omega) (by simp;omega)];simp
def allN (l:List Zx):List ByteArray:=l.flatMap fun s=>s.f0.map (·.f0)
theorem names_l0 (l:List Zx) (hl:l.length≤400) (hs:∀ s∈l,s.f0.length≤16):∀ (suf pre:List Zx) (o:List ByteArray) (i:Int),l=pre++suf→i=(pre.length:Int)→o.length≤16*pre.length→Z0v.l0 l o i=some (o++allN suf):=by
 intro suf
 induction suf with
 | nil=>intro pre o i h1 hi ho;rw[Z0v.l0,if_neg (by rw[h1];simp[hi])];simp[allN]
 | cons s suf ih =>
  intro pre o i h1 hi ho;have hlen:l.length=pre.length+(suf.length+1):=by rw[h1];simp
  have h16:=hs s (by rw[h1];simp);rw[Z0v.l0,if_pos (by simp;omega),Z2w h1 hi,sb,names_l1 l s i h16 s.f0 [] o 0 rfl rfl (by omega),sb,Z08 (by omega) (by omega),ih (pre++[s]) _ (i+1) (by simp[h1]) (by simp;omega) (by simp;omega)];simp[allN]
theorem allN_len:∀ l:List Zx,(∀ s∈l,s.f0.length≤16)→(allN l).length≤16*l.length
 | [],_=>by simp[allN]
 | s::l,h=>by
  have:=allN_len l (fun s hs=>h s (by simp[hs]));have:=h s (by simp);simp only[allN,List.flatMap_cons,List.length_append,List.length_map,List.length_cons] at *;omega
def rowC (c e:Int):Zb:=⟨[],⟨⟨0,0,0,0,0,0,[],[]⟩,0,c,⟨0,0,0⟩,⟨0,0,0⟩⟩,e⟩
def Z6q:List Int→Nat→List Zb
 | [],_=>[]
 | c::l,i=>rowC c (if i % 5=4 then 30 else 0)::Z6q l (i+1)
theorem rowsC_app:∀ (a b:List Int) (i:Nat),Z6q (a++b) i=Z6q a i++Z6q b (i+a.length)
 | [],b,i=>by simp[Z6q]
 | c::a,b,i=>by rw[List.cons_append,Z6q,Z6q,rowsC_app a b (i+1)];simp[Nat.add_assoc,Nat.add_comm 1]
theorem Z93:∀ (a:List Int) (i:Nat),(Z6q a i).length=a.length
 | [],_=>rfl
 | c::a,i=>by simp[Z6q,Z93 a]
def Z3j:List Int→Nat→List Int
 | [],_=>[]
 | c::l,i=>if i % 5=4 then Z3j l (i+1) else c::Z3j l (i+1)
theorem Z79:∀ (l:List Int) (i:Nat),(Z3j l i).length+(i+l.length) / 5=l.length+i / 5
 | [],i=>by simp[Z3j]
 | c::l,i=>by
  have:=Z79 l (i+1);rw[Z3j];simp only[List.length_cons];by_cases h:i % 5=4
  ·rw[if_pos h]
   have h2:(i+1) / 5=i / 5+1:=by omega
   rw[show i+(l.length+1)=i+1+l.length from by omega];omega
  ·rw[if_neg h]
   have h2:(i+1) / 5=i / 5:=by omega
   rw[show i+(l.length+1)=i+1+l.length from by omega];simp only[List.length_cons];omega
theorem Z92:∀ (l:List Int) (i:Nat),(Z6q l i).filter (fun r => !(r.f2 != 0))=(Z3j l i).map (fun c=>rowC c 0)
 | [],_=>rfl
 | c::l,i=>by
  rw[Z6q,Z3j];by_cases h:i % 5=4
  ·rw[if_pos h,if_pos h,List.filter_cons,if_neg (by simp[rowC]),Z92 l (i+1)]
  ·rw[if_neg h,if_neg h,List.filter_cons,if_pos (by simp[rowC]),Z92 l (i+1),List.map_cons]
theorem tops_l0 (s:List Zx) (cs:List Int) (n:Int) (nm:ByteArray) (hl:cs.length≤100):∀ (suf pre:List Int) (i:Int),cs=pre++suf→i=(pre.length:Int)→Zn.l0 s cs n nm (Z6q pre 0) i=some (Z6q cs 0):=by
 intro suf
 induction suf with
 | nil=>intro pre i h1 hi;rw[List.append_nil] at h1;subst h1;rw[Zn.l0,if_neg (by simp[hi])]
 | cons c suf ih =>
  intro pre i h1 hi;have hlen:cs.length=pre.length+(suf.length+1):=by rw[h1];simp
  have next:=ih (pre++[c]) (i+1) (by simp[h1]) (by simp;omega)
  rw[rowsC_app,Nat.zero_add] at next
  have hrl:=Z93 pre 0;have hm:((if((Int.tmod i (5:Int))==(4:Int))=true then(some 30) else(some 0)):Option Int)=some (if pre.length % 5=4 then 30 else 0):=by
   have:Int.tmod i 5=((pre.length % 5:Nat):Int):=by rw[hi];rw[Int.tmod_eq_emod_of_nonneg (by omega)];omega
   rw[this];by_cases h:pre.length % 5=4
   ·rw[if_pos (by simp[h]),if_pos h]
   ·rw[if_neg (by simp;omega),if_neg h]
  rw[Zn.l0,if_pos (by simp;omega),Z2w h1 hi,sb,hm,sb,chkB (by simp;omega),Z08 (by omega) (by omega)];exact next
def tLt (a b:Zb):Bool:=decide (b.f1.f2<a.f1.f2)
theorem tLt_swo:SWO tLt:=⟨fun a b h=>by simp[tLt] at *;omega,fun a b c h1 h2=>by simp[tLt] at *;omega⟩
theorem compare_u64 (a b:Int):Z1o.f a b=some (if a<b then -1 else if a>b then 1 else 0):=by
 unfold Z1o.f Z1m.f;rw[sb,sb,if_neg (by simp),if_neg (by simp)];by_cases h:a<b
 ·rw[if_pos (by simpa using h),if_pos h]
 ·rw[if_neg (by simpa using h),if_neg h]
  by_cases h2:a>b
  ·rw[if_pos (by simpa using h2),if_pos h2]
  ·rw[if_neg (by simpa using h2),if_neg h2]
theorem tCmp:Cmp Z1b.f tLt:=fun a b=>by
 refine⟨_,by unfold Z1b.f;rw[compare_u64,sb],?_⟩;simp only[tLt];by_cases h:b.f1.f2<a.f1.f2
 ·simp[h]
 ·rw[if_neg h];split<;>simp[h]
theorem tsort_inst:Z0g.f=GS.SortStable.f Z1b.f:=by kernel_rfl
theorem tdel_inst:Zy.f=deleteF.f (fun x=>Z2q.f x>>=fun _=>some (x.f2 != (0:Int))) (rowC 0 0):=by kernel_rfl
theorem top_eq (cs:List Int) (hl:cs.length≤100) (n:Int):Z45.f (Z6q cs 0) n=some ((S tLt ((Z3j cs 0).map (fun c=>rowC c 0))).take (Int.toNat (min (max n 0) ((Z3j cs 0).length:Int)))):=by
 have hrl:=Z93 cs 0;have hgl:=Z79 cs 0;unfold Z45.f Z18.f;rw[chkB (by simp;omega),sb,tdel_inst,deleteF_eq (p:=fun x=>x.f2 != 0) (fun x=>by unfold Z2q.f;rw[sb]) _ _ (by omega),sb,Z92,tsort_inst,GS.sorts tCmp tLt_swo _ (by simp;omega),sb];have hS:(S tLt ((Z3j cs 0).map (fun c=>rowC c 0))).length=(Z3j cs 0).length:=by rw[Z4d,List.length_map]
 rw[hS];have e1:(if(0:Int)>n then(0:Int) else n)=max n 0:=by
  by_cases h:(0:Int)>n
  ·rw[if_pos h];omega
  ·rw[if_neg h];omega
 have e2:(if((Z3j cs 0).length:Int)<max n 0 then((Z3j cs 0).length:Int) else max n 0)=min (max n 0) ((Z3j cs 0).length:Int):=by
  by_cases h:((Z3j cs 0).length:Int)<max n 0
  ·rw[if_pos h];omega
  ·rw[if_neg h];omega
 rw[e1,e2,chkB ⟨by omega,by omega⟩]
def Z40:List Int→List Bool→Nat→List Int
 | c::l,u::us,i=>if u=false∧i % 5≠4 then c::Z40 l us (i+1) else Z40 l us (i+1)
 | _,_,_=>[]
theorem Z9k:∀ (l:List Int) (i:Nat),Z40 l (List.replicate l.length false) i=Z3j l i
 | [],_=>rfl
 | c::l,i=>by
  rw[List.length_cons,List.replicate_succ,Z40,Z3j,Z9k l (i+1)];by_cases h:i % 5=4
  ·rw[if_neg (by simp[h]),if_pos h]
  ·rw[if_pos ⟨rfl,h⟩,if_neg h]
theorem Z75:∀ (a:List Int) (ua:List Bool) (b:List Int) (ub:List Bool) (i:Nat),a.length=ua.length→Z40 (a++b) (ua++ub) i=Z40 a ua i++Z40 b ub (i+a.length)
 | [],[],b,ub,i,_=>by simp[Z40]
 | [],_::_,_,_,_,h=>by simp at h
 | _::_,[],_,_,_,h=>by simp at h
 | c::a,u::ua,b,ub,i,h=>by
  simp only[List.length_cons,Nat.add_right_cancel_iff] at h;rw[List.cons_append,List.cons_append,Z40,Z40,Z75 a ua b ub (i+1) h];rw[show i+1+a.length=i+(c::a).length from by simp;omega];split<;>simp
def BestC (cs:List Int) (us:List Bool) (pre:List Int) (pu:List Bool) (b:Int):Prop :=
 (b = -1∧Z40 pre pu 0=[])∨∃ (m:Nat) (c:Int),b=(m:Int)∧m<pre.length∧cs[m]? = some c∧us[m]? = some false∧m % 5≠4∧∀ x∈Z40 pre pu 0,x≤c
theorem tops_l2 (s:List Zx) (cs:List Int) (nm:ByteArray) (r:Zb) (T:List Zb) (us:List Bool) (w:Int) (hl:cs.length≤100) (hus:us.length=cs.length):∀ (suf pre:List Int) (su pu:List Bool) (b i:Int),cs=pre++suf→us=pu++su→pre.length=pu.length→i=(pre.length:Int)→BestC cs us pre pu b →
  ∃ b',Zn.l2 s cs nm r T us w b i=some b'∧BestC cs us cs us b':=by
 intro suf
 induction suf with
 | nil =>
  intro pre su pu b i h1 h2 h3 hi hb;rw[List.append_nil] at h1;subst h1;have:su=[]:=by have:=congrArg List.length h2;simp at this;exact List.length_eq_zero_iff.1 (by omega)
  subst this;rw[List.append_nil] at h2;subst h2;rw[Zn.l2,if_neg (by simp[hi])];exact⟨b,rfl,hb⟩
 | cons c suf ih =>
  intro pre su pu b i h1 h2 h3 hi hb;have hlen:cs.length=pre.length+(suf.length+1):=by rw[h1];simp
  obtain⟨u,su',rfl⟩:∃ u su',su=u::su':=by
   cases su with
   | nil=>have:=congrArg List.length h2;simp at this;omega
   | cons u su'=>exact⟨u,su',rfl⟩
  have hl3:Z40 (pre++[c]) (pu++[u]) 0=Z40 pre pu 0++(if u=false∧pre.length % 5≠4 then [c] else []):=by
   rw[Z75 _ _ _ _ _ h3,Nat.zero_add,Z40];split<;>simp[Z40]
  have hcm:cs[pre.length]? = some c:=by rw[h1];simp
  have hum:us[pre.length]? = some u:=by rw[h2,h3];simp
  have hmod:Int.tmod i 5=((pre.length % 5:Nat):Int):=by rw[hi];rw[Int.tmod_eq_emod_of_nonneg (by omega)];omega
  rw[Zn.l2,if_pos (by simp;omega),Z2w h1 hi,sb,Z2w (l:=us) (pre:=pu) (x:=u) (suf:=su') h2 (by omega),sb,Z08 (by omega) (by omega),hmod];have step:∀ b'',BestC cs us (pre++[c]) (pu++[u]) b''→∃ b',Zn.l2 s cs nm r T us w b'' (i+1)=some b'∧BestC cs us cs us b':=fun b'' hb'' =>
   ih (pre++[c]) su' (pu++[u]) b'' (i+1) (by simp[h1]) (by simp[h2]) (by simp[h3]) (by simp;omega) hb''
  by_cases hu:u=false∧pre.length % 5≠4
  ·obtain⟨rfl,h4⟩:=hu
   rw[if_pos (show(!false)=true from rfl),if_pos (show(((pre.length % 5:Nat):Int) != 4)=true by simp;omega)];rw[if_pos ⟨rfl,h4⟩] at hl3;rcases hb with ⟨rfl,hb⟩ | ⟨m,c',rfl,g0,g1,g2,g3,g4⟩
   ·rw[if_pos (by decide),sb,if_pos rfl,sb]
    refine step i (.inr ⟨pre.length,c,hi,by simp,hcm,hum,h4,fun x hx => ?_⟩);rw[hl3,hb] at hx;simp at hx;omega
   ·rw[if_neg (by simp),Z62    rfl g1,sb,sb]
    by_cases hc:c>c'
    ·rw[if_pos (by simpa using hc),sb]
     refine step i (.inr ⟨pre.length,c,hi,by simp,hcm,hum,h4,fun x hx => ?_⟩);rw[hl3] at hx;rcases List.mem_append.1 hx with hx | hx
     ·have:=g4 x hx;omega
     ·simp at hx;omega
    ·rw[if_neg (by simpa using hc),sb]
     refine step _ (.inr ⟨m,c',rfl,by simp;omega,g1,g2,g3,fun x hx => ?_⟩);rw[hl3] at hx;rcases List.mem_append.1 hx with hx | hx
     ·exact g4 x hx
     ·simp at hx;omega
  ·rw[if_neg hu,List.append_nil] at hl3
   have hx:((if(!u)=true then(if(((pre.length % 5:Nat):Int) != (4:Int))=true then(if(decide (b<(0:Int)))=true then(some true) else((at? cs b)>>=fun b8068=>some (decide (c>b8068)))) else(some false)) else(some false)):Option Bool)=some false:=by
    cases u with
    | true=>rw[if_neg (by simp)]
    | false=>rw[if_pos (show(!false)=true from rfl),if_neg (by simp at hu;simp;omega)]
   rw[hx,sb,if_neg (by simp),sb];refine step b ?_;rcases hb with ⟨rfl,hb⟩ | ⟨m,c',rfl,g0,g1,g2,g3,g4⟩
   ·exact .inl ⟨rfl,by rw[hl3];exact hb⟩
   ·exact .inr ⟨m,c',rfl,by simp;omega,g1,g2,g3,fun x hx=>by rw[hl3] at hx;exact g4 x hx⟩
theorem leftC_set (cs:List Int) (us:List Bool) (hus:us.length=cs.length) (m:Nat) (c:Int) (h1:cs[m]? = some c) (h2:us[m]? = some false) (h3:m % 5≠4):(Z40 cs us 0).Perm (c::Z40 cs (us.set m true) 0):=by
 obtain⟨q1,e1⟩:=List.getElem?_eq_some_iff.1 h1;obtain⟨q2,e2⟩:=List.getElem?_eq_some_iff.1 h2;have d1:cs=cs.take m++c::cs.drop (m+1):=by rw[← e1];simp
 have d2:us=us.take m++false::us.drop (m+1):=by rw[← e2];simp
 have d3:us.set m true=us.take m++true::us.drop (m+1):=by rw[List.set_eq_take_append_cons_drop,if_pos q2]
 have hlt:(cs.take m).length=(us.take m).length:=by simp;omega
 have hm:(cs.take m).length=m:=by simp;omega
 have f1:Z40 cs us 0=Z40 (cs.take m) (us.take m) 0++c::Z40 (cs.drop (m+1)) (us.drop (m+1)) (m+1):=by
  conv=>lhs;rw[d1,d2]
  rw[Z75 _ _ _ _ _ hlt,Nat.zero_add,hm,Z40,if_pos ⟨rfl,h3⟩]
 have f2:Z40 cs (us.set m true) 0=Z40 (cs.take m) (us.take m) 0++Z40 (cs.drop (m+1)) (us.drop (m+1)) (m+1):=by
  conv=>lhs;rw[d1,d3]
  rw[Z75 _ _ _ _ _ hlt,Nat.zero_add,hm,Z40,if_neg (by simp)]
 rw[f1,f2];exact List.perm_middle
theorem tops_l1 (s:List Zx) (cs:List Int) (nm:ByteArray) (T R:List Zb) (hl:cs.length≤100) (hg:∀ r∈T++R,r.f2=0) (hsrt:(T++R).Pairwise (fun a b=>tLt b a=false)) (hTl:T.length≤(Z3j cs 0).length):∀ (suf pre:List Zb) (us:List Bool) (i:Int),T=pre++suf→i=(pre.length:Int)→us.length=cs.length→(Z40 cs us 0).Perm ((suf++R).map (·.f1.f2)) →
  Zn.l1 s cs nm T us i=some (.inr ()):=by
 intro suf;have hgl:=Z79 cs 0
 induction suf with
 | nil=>intro pre us i h1 hi hus hp;rw[Zn.l1,if_neg (by rw[h1];simp[hi])]
 | cons r suf ih =>
  intro pre us i h1 hi hus hp;have hlen:T.length=pre.length+(suf.length+1):=by rw[h1];simp
  obtain⟨b,e1,e2⟩:=tops_l2 s cs nm r T us i hl hus cs [] us [] (-1) 0 rfl rfl rfl rfl (.inl ⟨rfl,rfl⟩);rw[Zn.l1,if_pos (by simp;omega),Z2w h1 hi,sb,e1,sb];rcases e2 with ⟨rfl,h0⟩ | ⟨m,c,rfl,g0,g1,g2,g3,g4⟩
  ·rw[h0] at hp;have:=hp.length_eq;simp at this
  ·have hrc:r.f1.f2=c:=by
    have hin:c∈Z40 cs us 0:=(leftC_set cs us hus m c g1 g2 g3).mem_iff.2 (by simp);have h2:r.f1.f2≤c:=g4 _ (hp.mem_iff.2 (by simp));have h3:c∈((r::suf)++R).map (·.f1.f2):=hp.mem_iff.1 hin;obtain⟨x,hx,ex⟩:=List.mem_map.1 h3;have ex:x.f1.f2=c:=ex;have h4:c≤r.f1.f2:=by
     rcases List.mem_cons.1 (show x∈r::(suf++R) from hx) with rfl | hx
     ·omega
     ·rw[h1,List.append_assoc] at hsrt
      have:=(List.pairwise_cons.1 (List.pairwise_append.1 hsrt).2.1).1 x hx;simp[tLt] at this;omega
    omega
   rw[if_neg (by simp),Z62 rfl g1,sb,if_neg (by simp[hrc]),if_neg (by rw[hg r (by rw[h1];simp)];simp),sb];have htd:Int.tdiv (cs.length:Int) 5=((cs.length / 5:Nat):Int):=by rw[Int.tdiv_eq_ediv_of_nonneg (by omega)];omega
   rw[htd,Z08 (n:=((cs.length / 5:Nat):Int)) (by omega) (by omega),Z08 (n:=(cs.length:Int)-((cs.length / 5:Nat):Int)) (by omega) (by omega),if_neg (by simp;omega),Z62 rfl g2,sb,Int.toNat_natCast,Z08 (n:=i+1) (by omega) (by omega)];refine ih (pre++[r]) (us.set m true) (i+1) (by simp[h1]) (by simp;omega) (by simp[hus]) ?_;have h5:=(leftC_set cs us hus m c g1 g2 g3).symm.trans hp;rw[List.cons_append,List.map_cons,hrc] at h5;exact(List.perm_cons _).1 h5
theorem dd_up (l:List ByteArray) (h:l.Pairwise (fun a b=>bl b a=false)):(dd l).Pairwise (fun a b=>bl a b=true):=by
 revert h;refine Z8j (P:=fun l=>l.Pairwise (fun a b=>bl b a=false)→(dd l).Pairwise (fun a b=>bl a b=true)) (fun _=>List.Pairwise.nil) (fun l x ih h => ?_) l;obtain⟨h1,_,h3⟩:=List.pairwise_append.1 h;rw[Z9s];unfold ddS;split
 ·exact ih h1
 ·rename_i hne
  refine List.pairwise_append.2 ⟨ih h1,by simp,fun a ha b hb => ?_⟩;simp at hb;subst hb;have hal:a∈l:=(dd_mem l a).1 ha;have hle:=h3 a hal b (by simp);cases e:bl a b with
  | true=>rfl
  | false =>
   have hab:a=b:=bl_tri' e hle;subst hab;exfalso;apply hne;rcases List.eq_nil_or_concat l with rfl | ⟨P,p,rfl⟩
   ·simp at hal
   ·simp only[List.concat_eq_append] at *
    rw[dd_last,List.getLast?_concat];rcases List.mem_append.1 hal with hq | hq
    ·have q1:=(List.pairwise_append.1 h1).2.2 a hq p (by simp)
     have q2:=h3 p (by simp) a (by simp);rw[bl_tri' q2 q1]
    ·simp at hq;rw[hq]
structure Yes (m:List (ByteArray×Bool)) (S:List ByteArray):Prop where
 nd:(m.map (·.1)).Nodup
 mem:∀ k,k∈m.map (·.1)↔k∈S
 yes:∀ p∈m,p.2=true
theorem mput_in (k:ByteArray):∀ m:List (ByteArray×Bool),k∈m.map (·.1)→(mput m k true).map (·.1)=m.map (·.1)
 | [],h=>by simp at h
 | p::m,h=>by
  rw[mput];by_cases e:p.1=k
  ·rw[if_pos e];simp[e]
  ·rw[if_neg e,List.map_cons,List.map_cons]
   rw[List.map_cons] at h;rcases List.mem_cons.1 h with h | h
   ·exact absurd h.symm e
   ·rw[mput_in k m h]
theorem mput_out (k:ByteArray):∀ m:List (ByteArray×Bool),¬ k∈m.map (·.1)→(mput m k true).map (·.1)=m.map (·.1)++[k]
 | [],_=>rfl
 | p::m,h=>by
  rw[List.map_cons,List.mem_cons,not_or] at h;rw[mput,if_neg (fun e=>h.1 e.symm),List.map_cons,List.map_cons,mput_out k m h.2];rfl
theorem mput_yes (k:ByteArray):∀ m:List (ByteArray×Bool),(∀ p∈m,p.2=true)→∀ p∈mput m k true,p.2=true
 | [],_,p,hp=>by simp[mput] at hp;rw[hp]
 | q::m,h,p,hp=>by
  rw[mput] at hp;split at hp
  ·rcases List.mem_cons.1 hp with rfl | hp
   ·rfl
   ·exact h p (by simp[hp])
  ·rcases List.mem_cons.1 hp with rfl | hp
   ·exact h p (by simp)
   ·exact mput_yes k m (fun p hp=>h p (by simp[hp])) p hp
theorem Yes.put {m:List (ByteArray×Bool)} {S:List ByteArray} (h:Yes m S) (k:ByteArray):Yes (mput m k true) (S++[k]):=by
 by_cases hin:k∈m.map (·.1)
 ·refine⟨by rw[mput_in k m hin];exact h.nd,fun x => ?_,mput_yes k m h.yes⟩
  rw[mput_in k m hin,List.mem_append,← h.mem x];refine⟨.inl,fun q => ?_⟩;rcases q with q | q
  ·exact q
  ·simp at q;subst q;exact hin
 ·refine⟨?_,fun x => ?_,mput_yes k m h.yes⟩
  ·rw[mput_out k m hin]
   exact List.nodup_append.2 ⟨h.nd,by simp,fun a ha b hb=>by simp at hb;subst hb;rintro rfl;exact hin ha⟩
  ·rw[mput_out k m hin,List.mem_append,List.mem_append,← h.mem x]
theorem mget_yes:∀ (m:List (ByteArray×Bool)) (k:ByteArray),(∀ p∈m,p.2=true)→k∈m.map (·.1)→mget m k=some true
 | [],k,_,h=>by simp at h
 | p::m,k,hy,h=>by
  rw[mget];by_cases e:p.1=k
  ·rw[if_pos e,hy p (by simp)]
  ·rw[if_neg e]
   refine mget_yes m k (fun p hp=>hy p (by simp[hp])) ?_;rw[List.map_cons] at h;rcases List.mem_cons.1 h with h | h
   ·exact absurd h.symm e
   ·exact h
theorem rising_ok (m:List (ByteArray×Bool)) (S L:List ByteArray) (h:Yes m S) (hl:L.length<1000000000) (hm:∀ x,x∈L↔x∈S) (hu:L.Pairwise (fun a b=>bl a b=true)):Z0o.f L m=some true:=by
 have hnd:L.Nodup:=hu.imp (fun {x y} hlt e=>by subst e;rw[Z7s] at hlt;exact absurd hlt (by simp));have hlen:L.length=m.length:=by
  have:(m.map (·.1)).Perm L:=(List.perm_ext_iff_of_nodup h.nd hnd).2 (fun x=>by rw[h.mem,hm]);rw[← this.length_eq,List.length_map]
 have key:∀ (suf pre:List ByteArray) (i:Int),L=pre++suf→i=(pre.length:Int)→Z0o.l0 L m i=some (.inr ()):=by
  intro suf
  induction suf with
  | nil=>intro pre i h1 hi;rw[List.append_nil] at h1;subst h1;rw[Z0o.l0,if_neg (by simp[hi])]
  | cons x suf ih =>
   intro pre i h1 hi;have hln:L.length=pre.length+(suf.length+1):=by rw[h1];simp
   have hx:x∈m.map (·.1):=by rw[h.mem,← hm,h1];simp
   rw[Z0o.l0,if_pos (by simp;omega),Z2w h1 hi,sb,mget_yes m x h.yes hx,if_neg (by simp)];rcases List.eq_nil_or_concat pre with hn | ⟨P,p,hp⟩
   ·subst hn
    rw[if_neg (by simp[hi]),sb,if_neg (by simp),Z08 (by omega) (by omega)];exact ih [x] (i+1) (by simp[h1]) (by simp[hi])
   ·simp only[List.concat_eq_append] at hp
    have hpl:pre.length=P.length+1:=by rw[hp];simp
    have hlt:Op.bytesLess p.toList x.toList=true:=by
     rw[h1,hp] at hu;exact(List.pairwise_append.1 hu).2.2 p (by simp) x (by simp)
    rw[if_pos (show decide (i>(0:Int))=true by simp;omega),Z08 (n:=i-1) (by omega) (by omega),Z2w (l:=L) (pre:=P) (x:=p) (suf:=x::suf) (by rw[h1,hp];simp) (by omega),sb,hlt,sb,if_neg (by simp),Z08 (n:=i+1) (by omega) (by omega)];exact ih (pre++[x]) (i+1) (by simp[h1]) (by simp;omega)
 unfold Z0o.f;rw[if_neg (by simp[hlen]),key L [] 0 rfl rfl,sb]
def labV (nm:ByteArray) (l:List Z00):List ByteArray:=(l.filter (fun x=>decide (x.f0=nm))).map (·.f1)
def allV (nm:ByteArray) (l:List Zx):List ByteArray:=l.flatMap fun s=>labV nm s.f0
theorem rising_gt:∀ (l:List Z00) (p:ByteArray),Z5e (some p) l=true→∀ x∈l,bl p x.f0=true
 | [],_,_,x,hx=>nomatch hx
 | y::l,p,h,x,hx=>by
  rw[Z5s] at h;simp only[Bool.and_eq_true] at h;rcases List.mem_cons.1 hx with rfl | hx
  ·exact h.2.2.1
  ·exact Z9v h.2.2.1 (rising_gt l y.f0 h.2.2.2 x hx)
theorem getV_lab (nm:ByteArray):∀ (l:List Z00) (p:Option ByteArray),Z5e p l=true→(getV l nm=(⟨#[]⟩:ByteArray)∧labV nm l=[])∨(1≤(getV l nm).size∧labV nm l=[getV l nm])
 | [],_,_=>.inl ⟨rfl,rfl⟩
 | x::l,p,h=>by
  rw[Z5s] at h;simp only[Bool.and_eq_true] at h;obtain⟨_,hv,_,hr⟩:=h;rw[getV];by_cases e:x.f0=nm
  ·rw[if_pos e]
   have hv:1≤x.f1.size∧x.f1.size≤64:=by simpa[valB] using hv
   have hnone:l.filter (fun x=>decide (x.f0=nm))=[]:=by
    rw[List.filter_eq_nil_iff];intro y hy;have:=rising_gt l x.f0 hr y hy;simp only[decide_eq_true_eq];rintro rfl;rw[e,Z7s] at this;exact absurd this (by simp)
   refine .inr ⟨hv.1,?_⟩;unfold labV;rw[List.filter_cons,if_pos (by simpa using e),hnone];rfl
  ·rw[if_neg e]
   have:labV nm (x::l)=labV nm l:=by unfold labV;rw[List.filter_cons,if_neg (by simpa using e)]
   rw[this];exact getV_lab nm l _ hr
theorem labV_len (nm:ByteArray) (l:List Z00):(labV nm l).length≤l.length:=by unfold labV;rw[List.length_map];exact List.length_filter_le ..
theorem Z8k {l:List Zx} (h:Rig l) {s:Zx} (hs:s∈l):Z5e none s.f0=true∧s.f0.length≤16:=by
 have:=(h.ok s hs).1;refine⟨?_,chkC_len this⟩;unfold chkC at this;split at this
 ·simp at this
 ·split at this
  ·assumption
  ·simp at this
theorem values_l0 (l:List Zx) (nm:ByteArray) (hl:l.length≤400) (hG:Rig l):∀ (suf pre:List Zx) (i:Int),l=pre++suf→i=(pre.length:Int)→(allV nm pre).length≤pre.length→Z10.l0 l nm (allV nm pre) i=some (allV nm l):=by
 intro suf
 induction suf with
 | nil=>intro pre i h1 hi ho;rw[List.append_nil] at h1;subst h1;rw[Z10.l0,if_neg (by simp[hi])]
 | cons s suf ih =>
  intro pre i h1 hi ho;have hlen:l.length=pre.length+(suf.length+1):=by rw[h1];simp
  obtain⟨hr,h16⟩:=Z8k hG (s:=s) (by rw[h1];simp);have hv:allV nm (pre++[s])=allV nm pre++labV nm s.f0:=by simp[allV]
  have next:=ih (pre++[s]) (i+1) (by simp[h1]) (by simp;omega)
  rw[hv] at next
  rw[Z10.l0,if_pos (by simp;omega),Z2w h1 hi,sb,lget s.f0 nm (by omega),sb,isEmptyB,Z08 (by omega) (by omega)];rcases getV_lab nm s.f0 none hr with ⟨e1,e2⟩ | ⟨e1,e2⟩
  ·rw[e2] at next
   rw[e1,if_neg (by simp;rfl),sb];rw[List.append_nil] at next
   exact next (by simp;omega)
  ·rw[e2] at next
   have hne:¬ (getV s.f0 nm).size=0:=by omega
   rw[if_pos (by simp[hne]),chkB (by simp;omega),sb];exact next (by simp;omega)
theorem allV_len (nm:ByteArray):∀ l:List Zx,(∀ s∈l,s.f0.length≤16)→(allV nm l).length≤16*l.length
 | [],_=>by simp[allV]
 | s::l,h=>by
  have:=allV_len nm l (fun s hs=>h s (by simp[hs]));have h1:=h s (by simp);have h2:=labV_len nm s.f0;simp only[allV,List.flatMap_cons,List.length_append,List.length_cons] at *;omega
theorem values_eq (l:List Zx) (nm:ByteArray) (hl:l.length≤400) (hG:Rig l):∃ N,Z10.f l nm=some N∧N.length≤6400∧(∀ x,x∈N↔x∈allV nm l)∧N.Pairwise (fun a b=>bl a b=true):=by
 have hlen:=allV_len nm l (fun s hs=>(Z8k hG hs).2);obtain⟨r,e,hp,hs⟩:=ssort (allV nm l) (by omega);have hr:=hp.length_eq;refine⟨dd r,?_,?_,fun x => ?_,dd_up r hs⟩
 ·unfold            Z10.f
  have:=values_l0 l nm hl hG l [] 0 rfl rfl (by simp[allV]);rw[show allV nm []=[] from rfl] at this;rw[this,sb,e,sb,Zao r (by omega),sb]
 ·have:=dd_len r;omega
 ·rw[dd_mem,hp.mem_iff]
theorem names_up (l:List Zx) (hl:l.length≤400) (hs:∀ s∈l,s.f0.length≤16):∃ N,Z0v.f l=some N∧N.length≤6400∧(∀ x,x∈N↔x∈allN l)∧N.Pairwise (fun a b=>bl a b=true):=by
 have hlen:=allN_len l hs;obtain⟨r,e,hp,hst⟩:=ssort (allN l) (by omega);have hr:=hp.length_eq;refine⟨dd r,?_,?_,fun x => ?_,dd_up r hst⟩
 ·unfold           Z0v.f
  rw[names_l0 l hl hs l [] [] 0 rfl rfl (by simp),sb,List.nil_append,e,sb,Zao r (by omega),sb]
 ·have:=dd_len r;omega
 ·rw[dd_mem,hp.mem_iff]
theorem tops_l4 (l:List Zx) (nm:ByteArray) (s:Zx) (w:Int) (h16:s.f0.length≤16):∀ (suf pre:List Z00) (mv mn:List (ByteArray×Bool)) (V N:List ByteArray) (i:Int),s.f0=pre++suf→i=(pre.length:Int)→Yes mv V→Yes mn N →
  ∃ mv' mn',Zn.l4 l nm s w mv mn i=some (mv',mn')∧Yes mv' (V++labV nm suf)∧Yes mn' (N++suf.map (·.f0)):=by
 intro suf
 induction suf with
 | nil =>
  intro pre mv mn V N i h1 hi hv hn;rw[Zn.l4,if_neg (by rw[h1];simp[hi])];exact⟨mv,mn,rfl,by simpa[labV] using hv,by simpa using hn⟩
 | cons x suf ih =>
  intro pre mv mn V N i h1 hi hv hn;have hlen:s.f0.length=pre.length+(suf.length+1):=by rw[h1];simp
  rw[Zn.l4,if_pos (by simp;omega),Z2w h1 hi,sb,eqB,Z08 (by omega) (by omega)];by_cases e:x.f0=nm
  ·rw[if_pos (by simpa using e),sb]
   obtain⟨mv',mn',e1,e2,e3⟩:=ih (pre++[x]) _ _ _ _ (i+1) (by simp[h1]) (by simp;omega) (hv.put x.f1) (hn.put x.f0);refine⟨mv',mn',e1,?_,by simpa using e3⟩;have:labV nm (x::suf)=x.f1::labV nm suf:=by unfold labV;rw[List.filter_cons,if_pos (by simpa using e)];rfl
   rw[this];simpa using e2
  ·rw[if_neg (by simpa using e),sb]
   obtain⟨mv',mn',e1,e2,e3⟩:=ih (pre++[x]) _ _ _ _ (i+1) (by simp[h1]) (by simp;omega) hv (hn.put x.f0);refine⟨mv',mn',e1,?_,by simpa using e3⟩;have:labV nm (x::suf)=labV nm suf:=by unfold labV;rw[List.filter_cons,if_neg (by simpa using e)]
   rw[this];exact e2
theorem tops_l3 (l:List Zx) (nm:ByteArray) (hl:l.length≤400) (hG:Rig l):∀ (suf pre:List Zx) (mv mn:List (ByteArray×Bool)) (i:Int),l=pre++suf→i=(pre.length:Int)→Yes mv (allV nm pre)→Yes mn (allN pre) →
  ∃ mv' mn',Zn.l3 l nm mv mn i=some (mv',mn')∧Yes mv' (allV nm l)∧Yes mn' (allN l):=by
 intro suf
 induction suf with
 | nil =>
  intro pre mv mn i h1 hi hv hn;rw[List.append_nil] at h1;subst h1;rw[Zn.l3,if_neg (by simp[hi])];exact⟨mv,mn,rfl,hv,hn⟩
 | cons s suf ih =>
  intro pre mv mn i h1 hi hv hn;have hlen:l.length=pre.length+(suf.length+1):=by rw[h1];simp
  obtain⟨_,h16⟩:=Z8k hG (s:=s) (by rw[h1];simp);obtain⟨mv',mn',e1,e2,e3⟩:=tops_l4 l nm s i h16 s.f0 [] mv mn _ _ 0 rfl rfl hv hn;rw[Zn.l3,if_pos (by simp;omega),Z2w h1 hi,sb,e1,sb];dsimp only;rw[Z08 (by omega) (by omega)];exact ih (pre++[s]) mv' mn' (i+1) (by simp[h1]) (by simp;omega) (by simpa[allV] using e2) (by simpa[allN] using e3)
theorem groupTops_R (a0:List Zx) (a1:List Int) (a2:Int) (a3:ByteArray) (R0:RL a0) (R1:a1.length≤1048576∧∀ y∈a1,U64 y) (R2:I64 a2) (R3:a3.size≤1048576):Zn.f a0 a1 a2 a3=some true:=by
 unfold Zn.f;obtain⟨b,eb,hb⟩:=light20 a0 R0;rw[eb,awake20,sb];cases b
 case false=>rw[if_pos (by simp),sb,if_pos rfl,sb]
 rw[if_neg (by simp),sb];by_cases hn:a1.length>100
 ·rw[if_pos (by simp;omega),sb]
 rw[if_neg (by simp;omega)];obtain⟨hS,hG⟩:=hb rfl;have hsl:=hS.len;have hgl:=Z79 a1 0;have hc:=tops_l0 a0 a1 a2 a3 (by omega) a1 [] 0 rfl rfl;rw[show Z6q [] 0=[] from rfl] at hc;generalize hQ:S tLt ((Z3j a1 0).map (fun c=>rowC c 0))=Q;have hQp:Q.Perm ((Z3j a1 0).map (fun c=>rowC c 0)):=by rw[← hQ];exact S_perm _
 have hQl:Q.length=(Z3j a1 0).length:=by rw[hQp.length_eq,List.length_map]
 have hQs:Q.Pairwise (fun a b=>tLt b a=false):=by rw[← hQ];exact Z6d tLt_swo _
 have ht:=top_eq a1 (by omega) a2;rw[hQ] at ht;have htd:Int.tdiv (a1.length:Int) 5=((a1.length / 5:Nat):Int):=by rw[Int.tdiv_eq_ediv_of_nonneg (by omega)];omega
 have hgood:i64.wrap ((a1.length:Int)-(i64.wrap (Int.tdiv (a1.length:Int) (5:Int))))=((Z3j a1 0).length:Int):=by
  rw[htd,Z08 (n:=((a1.length / 5:Nat):Int)) (by omega) (by omega),Z08 (by omega) (by omega)];omega
 have htake:((Q.take (Int.toNat (min (max a2 0) ((Z3j a1 0).length:Int)))).length:Int)=(if(if((Z3j a1 0).length:Int)<a2 then((Z3j a1 0).length:Int) else a2)>(0:Int) then(if((Z3j a1 0).length:Int)<a2 then((Z3j a1 0).length:Int) else a2) else(0:Int)):=by
  rw[List.length_take,hQl];by_cases h:((Z3j a1 0).length:Int)<a2
  ·rw[if_pos h]
   by_cases h2:((Z3j a1 0).length:Int)>0
   ·rw[if_pos h2];omega
   ·rw[if_neg h2];omega
  ·rw[if_neg h]
   by_cases h2:a2>0
   ·rw[if_pos h2];omega
   ·rw[if_neg h2];omega
 rw[hc,sb,ht,sb,hgood,if_neg (by rw[htake];simp),chkB (by omega),Int.toNat_natCast];generalize hm:Int.toNat (min (max a2 0) ((Z3j a1 0).length:Int))=m;have hq0:∀ r∈Q.take m++Q.drop m,r.f2=0:=fun r hr=>by
  rw[List.take_append_drop] at hr;obtain⟨c,_,rfl⟩:=List.mem_map.1 (hQp.mem_iff.1 hr);rfl
 have hl1:=tops_l1 a0 a1 a3 (Q.take m) (Q.drop m) (by omega) hq0 (by rw[List.take_append_drop];exact hQs) (by simp;omega) (Q.take m) [] (List.replicate a1.length false) 0 rfl rfl (by simp) (by
  rw[List.take_append_drop,Z9k];have:=(hQp.map (·.f1.f2)).symm;rw[List.map_map] at this;have e:(Z3j a1 0).map ((fun x:Zb=>x.f1.f2) ∘ fun c=>rowC c 0)=Z3j a1 0:=by
   conv=>rhs;rw[← List.map_id (Z3j a1 0)]
   exact List.map_congr_left (fun x _=>rfl)
  rw[e] at this;exact this)
 rw[hl1,sb];dsimp only;obtain⟨mv,mn,e1,e2,e3⟩:=tops_l3 a0 a3 hsl hG a0 [] [] [] 0 rfl rfl ⟨by simp,fun k=>by simp[allV],fun p hp=>nomatch hp⟩ ⟨by simp,fun k=>by simp[allN],fun p hp=>nomatch hp⟩;obtain⟨V,v1,v2,v3,v4⟩:=values_eq a0 a3 hsl hG;obtain⟨N,n1,n2,n3,n4⟩:=names_up a0 hsl (fun s hs=>(Z8k hG hs).2);rw[e1,sb];dsimp only;rw[sb,if_pos rfl,v1,sb,rising_ok mv (allV a3 a0) V e2 (by omega) v3 v4,sb,if_pos rfl,n1,sb,rising_ok mn (allN a0) N e3 (by omega) n3 n4,sb,sb]
end Go.Proofs.YtcilcefjcaimoaaGreat.PvGQ
