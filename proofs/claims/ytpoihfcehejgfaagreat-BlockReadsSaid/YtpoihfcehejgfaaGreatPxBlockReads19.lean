import Derived.Test.YtpoihfcehejgfaaGreatPxBlockReads18
set_option linter.unusedVariables false
set_option linter.unusedSimpArgs false
set_option maxRecDepth 100000
namespace Go.Proofs.YtpoihfcehejgfaaGreat.PvGS2
open Go Go.Pv Go.Pv.GS Go.IntKind
variable {b:List Int}
theorem Zdq {l:List Int} {i:Nat} {v:Int} (hl:∀ x∈l,U64 x) (hv:U64 v):∀ x∈l.set i v,U64 x:=fun x hx=>by
 rcases List.mem_or_eq_of_mem_set hx with h | rfl
 ·exact hl x h
 ·exact hv
theorem s1_tot (hb:Src b) (H:Zh) (L M:Ze) (t:Int×Int×Int) (P N:List Int) (hP:P.length≤1000000) (hN:N.length≤1000000) (la:Int) (o:List Z6) (i tm:Int) :
  ∀ (m:Nat) (was step:List Int) (a:Nat) (e:Int) (k:Nat),(2+P.length+N.length)-k≤m→was.length=2+P.length+N.length→step.length=2+P.length+N.length→(∀ x∈was,U64 x)→a≤8*b.length →
  ∃ (a':Nat) (e':Int) (w s:List Int),Z03.l1 b H L M t P N la o i tm (a:Int) e was step (k:Int)=some ((a':Int),e',w,s)∧a'≤8*b.length∧w.length=2+P.length+N.length∧s.length=2+P.length+N.length∧∀ x∈w,U64 x:=by
 intro m
 induction m with
 | zero =>
  intro was step a e k hm hw hs hu ha;rw[Z03.l1,wide_eq hP hN,if_neg (by simp;omega)];exact⟨a,e,was,step,rfl,ha,hw,hs,hu⟩
 | succ m ih =>
  intro was step a e k hm hw hs hu ha;by_cases hk:k<2+P.length+N.length
  case neg =>
   rw[Z03.l1,wide_eq hP hN,if_neg (by simp;omega)];exact⟨a,e,was,step,rfl,ha,hw,hs,hu⟩
  have aw:at? was (k:Int)=some (was[k]'(by omega)):=Z4j rfl (List.getElem?_eq_getElem _);have aS:at? step (k:Int)=some (step[k]'(by omega)):=Z4j rfl (List.getElem?_eq_getElem _);have aS2:∀ v,at? (step.set (Int.toNat (k:Int)) v) (k:Int)=some v:=fun v=>Z4j rfl (by rw[Int.toNat_natCast,List.getElem?_set_self (by omega)])
  rw[Z03.l1,wide_eq hP hN,if_pos (by simp;omega),Z8 (n:=(k:Int)+1) (by omega) (by omega)];have nx:∀ (a1:Nat) (e1:Int) (w s:List Int),a1≤8*b.length→w.length=2+P.length+N.length→s.length=2+P.length+N.length→(∀ x∈w,U64 x)→∃ (a':Nat) (e':Int) (w' s':List Int),Z03.l1 b H L M t P N la o i tm (a1:Int) e1 w s ((k:Int)+1)=some ((a':Int),e',w',s')∧a'≤8*b.length∧w'.length=2+P.length+N.length∧s'.length=2+P.length+N.length∧∀ x∈w',U64 x:=by
   intro a1 e1 w s h1 h2 h3 h4;have:=ih w s a1 e1 (k+1) (by omega) h2 h3 h4 h1
   rwa [show((k+1:Nat):Int)=(k:Int)+1 by omega] at this
  by_cases i0:i=0
  ·obtain⟨n,a1,e1,h1,h2,h3⟩:=count_tot hb ha e
   rw[if_pos (by simpa using i0),h1,sb,aw,sb,sb];dsimp only;exact nx a1 e1 _ step h2 (by simpa using hw) hs (Zdq hu ⟨by omega,by omega⟩)
  rw[if_neg (by simpa using i0)];by_cases i1:i=1
  ·obtain⟨x,a1,e1,h1,h2,h3⟩:=Zdt     hb ha e
   rw[if_pos (by simpa using i1),h1,sb,aS,sb,aw,sb];dsimp only;rw[aS2,sb,sb];dsimp only;rw[sb];dsimp only;exact nx a1 e1 _ _ h2 (by simpa using hw) (by simpa using hs) (Zdq hu (Z7m _))
  ·obtain⟨x,a1,e1,h1,h2,h3⟩:=Zdt     hb ha e
   rw[if_neg (by simpa using i1),aS,sb,h1,sb,aw,sb];dsimp only;rw[aS2,sb,sb];dsimp only;rw[sb];dsimp only;exact nx a1 e1 _ _ h2 (by simpa using hw) (by simpa using hs) (Zdq hu (Z7m _))
theorem seqI_mem {x:Int}:∀ {n:Nat} {a:Int},x∈seqI a n→a≤x∧x<a+n
 | 0,a,h=>by simp[seqI] at h
 | n+1,a,h=>by
  rw[seqI] at h;rcases List.mem_cons.1 h with rfl | h
  ·omega
  ·have:=seqI_mem h;omega
theorem idxs_bd {x:Int}:∀ (r:List Z2u) (a:Int),(∀ s∈r,-3000000≤s.f0∧s.f0≤3000000∧0≤s.f1∧s.f1≤1000000)→x∈idxs r a→a-3000000*(r.length:Int)≤x∧x≤a+4000000*(r.length:Int)
 | [],a,_,h=>by simp[idxs] at h
 | s::r,a,hs,h=>by
  have q:=hs s (by simp);rw[idxs] at h;simp only[List.length_cons];rcases List.mem_append.1 h with h | h
  ·have:=seqI_mem h;omega
  ·have:=idxs_bd r _ (fun s hs'=>hs s (by simp[hs'])) h;omega
theorem LOk.ind {L:Ze} (h:LOk L):∃ P,Zq.f L=some P∧P.length≤512∧∀ i∈P,I64 i:=by
 have:=h.first
 refine⟨_,ind_eq L h.sp (by omega) (by have:=h.len;omega),by rw[idxs_len];exact h.len,fun i hi => ?_⟩;have:=idxs_bd L.f1 L.f0 h.sp.ok hi;have:=h.sp.len;omega
structure HOk (h:Zh):Prop where
 fits:Fits h
 pos:h.f6.length≤512
 neg:h.f7.length≤512
theorem HOk.zero:HOk (⟨0,0,0,0,0,0,[],[]⟩:Zh):=⟨⟨by decide,by decide,by decide,by decide,by decide,by decide,by simp,by simp⟩,by simp,by simp⟩
theorem smp_tot (hb:Src b) {L M:Ze} {P N:List Int} (iP:Zq.f L=some P) (iN:Zq.f M=some N) (lP:P.length≤512) (lN:N.length≤512) (bP:∀ i∈P,I64 i) (bN:∀ i∈N,I64 i) (H:Zh) (hH:I64 H.f0∧I64 H.f1∧I64 H.f2∧U64 H.f4) (t:Int×Int×Int) (ht:0≤t.1∧t.1≤31) :
  ∀ (m:Nat) (was step:List Int) (la gap:Int) (o:List Z6) (a:Nat) (e:Int) (i:Int),33-i≤m→i=(o.length:Int)→o.length≤32→was.length=2+P.length+N.length→step.length=2+P.length+N.length→(∀ x∈was,U64 x)→(∀ s∈o,HOk s.f1)→a≤8*b.length →
  ∃ (r:List Z6) (a':Nat) (e':Int),Z03.l0 b H L M t P N ((a:Int),e,was,step,la,gap,o,i)=some (r,(a':Int),e')∧a'≤8*b.length∧r.length≤32∧∀ s∈r,HOk s.f1:=by
 intro m
 induction m with
 | zero=>intro was step la gap o a e i hm hi ho;omega
 | succ m ih =>
  intro was step la gap o a e i hm hi ho hw hs hu hok ha;rw[Z03.l0];dsimp only;rw[Z8 (n:=1+t.1) (by omega) (by omega)];by_cases c:i<1+t.1
  case neg=>rw[if_neg (by simpa using c),sb,if_neg (by simp)];exact⟨o,a,e,rfl,ha,ho,hok⟩
  rw[if_pos (by simpa using c),err_eq,sb,sb];by_cases he:e=0
  case neg=>rw[if_neg (by simpa using he)];exact⟨o,a,e,rfl,ha,ho,hok⟩
  rw[if_pos (by simpa using he)];have T:∃ (a1:Nat) (e1 tm:Int),((if(i==(0:Int))=true then((Z7.f b (a:Int) e 1099511627776)>>=fun t3202=>some (t3202.2.1,t3202.2.2,t3202.1)) else(((if(i==(1:Int))=true then((Z7.f b (a:Int) e 1099511627776)>>=fun t3207=>some (t3207.2.1,t3207.2.2,i64.wrap ((i64.wrap (la+(1:Int)))+t3207.1))) else((Z0c.f b (a:Int) e)>>=fun t3211=>some (t3211.2.1,t3211.2.2,i64.wrap ((i64.wrap (la+gap))+t3211.1)))):Option (Int×Int×Int))>>=fun oo=>match oo with | (x3213,x3214,x3215)=>(some (x3213,x3214,x3215)))):Option (Int×Int×Int))=some ((a1:Int),e1,tm)∧a1≤8*b.length:=by
   by_cases i0:i=0
   ·obtain⟨n,a1,e1,h1,h2,h3⟩:=Z81       hb ha e (m:=1099511627776) (by omega)
    rw[if_pos (by simpa using i0),show Z7.f b (a:Int) e 1099511627776=_ from h1,sb];exact⟨_,_,_,rfl,h2⟩
   rw[if_neg (by simpa using i0)];by_cases i1:i=1
   ·obtain⟨n,a1,e1,h1,h2,h3⟩:=Z81       hb ha e (m:=1099511627776) (by omega)
    rw[if_pos (by simpa using i1),show Z7.f b (a:Int) e 1099511627776=_ from h1,sb,sb];exact⟨_,_,_,rfl,h2⟩
   ·obtain⟨x,a1,e1,h1,h2,h3⟩:=Zdt     hb ha e
    rw[if_neg (by simpa using i1),h1,sb,sb];exact⟨_,_,_,rfl,h2⟩
  obtain⟨a1,e1,tm,E1,g1⟩:=T;rw[E1,sb];dsimp only;obtain⟨a2,e2,w,s,E2,g2,g3,g4,g5⟩:=s1_tot hb H L M t P N (by omega) (by omega) la o i tm _ was step a1 e1 0 (Nat.le_refl _) hw hs hu g1;rw[show Z03.l1 b H L M t P N la o i tm (a1:Int) e1 was step 0=_ from E2,sb];dsimp only;have w2:i64.wrap ((2:Int)+(P.length:Int))=((2+P.length:Nat):Int):=by rw[Z8 (by omega) (by omega)];omega
  have A0:at? w 0=some (w[0]'(by omega)):=Z4j (k:=0) rfl (List.getElem?_eq_getElem _);have A1:at? w 1=some (w[1]'(by omega)):=Z4j (k:=1) rfl (List.getElem?_eq_getElem _);have u0:=g5 _ (List.getElem_mem (l:=w) (n:=0) (by omega));have B1:=Zf7 iP (by omega) (c:=(w.drop (Int.toNat (2:Int))).take (Int.toNat (((2+P.length:Nat):Int))-Int.toNat (2:Int))) (by
   rw[List.length_take,List.length_drop,show Int.toNat (2:Int)=2 from rfl,Int.toNat_natCast];omega)
  have B2:=Zf7 iN (by omega) (c:=(w.drop (Int.toNat (((2+P.length:Nat):Int)))).take (Int.toNat (w.length:Int)-Int.toNat (((2+P.length:Nat):Int)))) (by
   rw[List.length_take,List.length_drop,Int.toNat_natCast,Int.toNat_natCast];omega)
  rw[A0,sb,A1,sb,w2,chkB (by omega),B1,sb,chkB (by omega),B2,sb];have l1:=bks_len P ((w.drop (Int.toNat (2:Int))).take (Int.toNat (((2+P.length:Nat):Int))-Int.toNat (2:Int)));have l2:=bks_len N ((w.drop (Int.toNat (((2+P.length:Nat):Int)))).take (Int.toNat (w.length:Int)-Int.toNat (((2+P.length:Nat):Int))));have m1:∀ y∈bks P ((w.drop (Int.toNat (2:Int))).take (Int.toNat (((2+P.length:Nat):Int))-Int.toNat (2:Int))),I64 y.f0∧U64 y.f1:=fun y hy=>by
   have q:=bks_mem _ _ y hy;exact⟨bP _ q.1,g5 _ (List.mem_of_mem_drop (List.mem_of_mem_take q.2.1))⟩
  have m2:∀ y∈bks N ((w.drop (Int.toNat (((2+P.length:Nat):Int)))).take (Int.toNat (w.length:Int)-Int.toNat (((2+P.length:Nat):Int)))),I64 y.f0∧U64 y.f1:=fun y hy=>by
   have q:=bks_mem _ _ y hy;exact⟨bN _ q.1,g5 _ (List.mem_of_mem_drop (List.mem_of_mem_take q.2.1))⟩
  generalize bks P ((w.drop (Int.toNat (2:Int))).take (Int.toNat (((2+P.length:Nat):Int))-Int.toNat (2:Int)))=Pb at *;generalize bks N ((w.drop (Int.toNat (((2+P.length:Nat):Int)))).take (Int.toNat (w.length:Int)-Int.toNat (((2+P.length:Nat):Int))))=Nb at *;obtain⟨r,e3,E3,k1,k2,k3,k4⟩:=make_spec (⟨H.f0,H.f1,H.f2,w[0]'(by omega),H.f4,i64.wrap (w[1]'(by omega)),Pb,Nb⟩:Zh) Pb Nb ⟨hH.1,hH.2.1,hH.2.2.1,u0,hH.2.2.2,Z9q _,m1,m2⟩ (by omega) (by omega) m1 m2;have hr:HOk r:=by
   by_cases he3:e3=0
   ·obtain⟨fr,cr,_⟩:=k4 he3
    obtain⟨x,ex,hx⟩:=Ze7 r fr (by omega) (by omega);rw[cr] at ex;have v:=hx.1 (Option.some.inj ex).symm;exact⟨fr,v.pos.len,v.neg.len⟩
   ·rw[k3 he3];exact HOk.zero
  rw[E3,sb,chkB (by simp;omega),Z8 (n:=i+1) (by omega) (by omega)];exact ih w s tm _ (o++[⟨tm,r⟩]) a2 e2 (i+1) (by omega) (by simp;omega) (by simp;omega) g3 g4 g5 (fun s hs=>by
   rcases List.mem_append.1 hs with hs | hs
   ·exact hok s hs
   ·simp at hs;subst hs;exact hr) g2
theorem get_fwd (hb:Src b) {a k:Nat} {s z:List Bool} (hk:k≤64) (hs:s.length=k) (ha:a≤8*b.length) (h:(Z12 b).drop a=s++z):Zk.f b (a:Int) 0 (k:Int)=some (((val s:Nat):Int),((a+k:Nat):Int),0):=by
 have l1:=congrArg List.length h;simp only[List.length_drop,Z2j,List.length_append] at l1;rcases Zd2 hb hk ha with ⟨_,h2⟩ | ⟨h1,_⟩
 ·rw[h2,h,List.take_left' hs]
 ·omega
theorem get_tot (hb:Src b) {a k:Nat} (hk:k≤64) (ha:a≤8*b.length) (e:Int):∃ (n a1:Nat) (e1:Int),Zk.f b (a:Int) e (k:Int)=some ((n:Int),(a1:Int),e1)∧a1≤8*b.length∧n<2 ^ k:=by
 have hp:0<2 ^ k:=Nat.pow_pos (by omega);by_cases he:e=0
 ·subst he
  rcases Zd2 hb hk ha with ⟨h1,h2⟩ | ⟨h1,h2⟩
  ·refine⟨_,_,0,h2,h1,?_⟩
   have:=val_lt (((Z12 b).drop a).take k)
   rwa [List.length_take,List.length_drop,Z2j,Nat.min_eq_left (by omega)] at this
  ·exact⟨0,8*b.length,7,h2,Nat.le_refl _,hp⟩
 ·exact⟨0,a,e,get_bad hk he,ha,hp⟩
theorem bit_tot (hb:Src b) {a:Nat} (ha:a≤8*b.length):∃ (x:Bool) (a1:Nat) (e1:Int),Z08.f b (a:Int) 0=some (x,(a1:Int),e1)∧a1≤8*b.length:=by
 by_cases h:a<8*b.length
 ·have hlt:a<(Z12    b).length:=by rw[Z2j       ];exact h
  exact⟨_,a+1,0,rbit_ok hb (List.getElem?_eq_getElem hlt),by omega⟩
 ·exact⟨false,a,7,rbit_end hb (by omega),ha⟩
theorem enc_tot (l:List Z6) (hl:l.length≤1000) (hk:∀ s∈l,HOk s.f1):∃ (x:List Int) (e:Int),Zw.f l=some (x,e)∧x.length<1000000000000∧(e=0→COk l∧l≠[]∧Z0l.f l=some 0∧∃ f,Laid x f (Z6s l)):=by
 obtain⟨e,e1,e3⟩:=chk_p l (by omega) (fun s hs=>(hk s hs).fits);by_cases he:e=0
 ·subst he
  obtain⟨hc,hne⟩:=e3 rfl;obtain⟨x,f,E,h⟩:=enc_eq hc hne (fun s hs=>(hk s hs).fits) e1;have:=h.len;have:=h.lt;have:=Z9u hc (fun s hs=>(hk s hs).fits);exact⟨x,0,E,by omega,fun _=>⟨hc,hne,e1,f,h⟩⟩
 ·refine⟨[],e,?_,by simp,fun h=>absurd h he⟩
  unfold Zw.f;rw[e1,sb,if_pos (by simpa using he)]
theorem dec_tot (hb:Src b):∃ (l:List Z6) (e:Int),Z52.f b=some (l,e)∧((e=6∧l=[])∨(e=0∧COk l∧l≠[]∧(∀ s∈l,HOk s.f1)∧Z0l.f l=some 0∧∃ f,Laid b f (Z6s l))):=by
 have hbl:=hb.len;unfold Z52.f Z57.f;rw[sb];obtain⟨x,a1,e1,E1,g1⟩:=bit_tot hb (a:=0) (by omega);rw[show Z08.f b 0 0=_ from E1,sb];dsimp only;obtain⟨K,EK,hK⟩:∃ K:Int,((if x=true then(some 1) else(some 0)):Option (Int))=some K∧I64 K:=by
  cases x
  ·exact⟨0,rfl,by omega⟩
  ·exact⟨1,rfl,by omega⟩
 rw[EK,sb];obtain⟨n,a2,e2,E2,g2,h2⟩:=get_tot hb (k:=4) (by omega) g1 e1;rw[show Zk.f b (a1:Int) e1 4=_ from E2,sb];dsimp only;obtain⟨z,a3,e3,E3,g3,h3⟩:=Zdt hb g2 e2;rw[E3,sb];dsimp only;by_cases c:z < -524288∨z>262144
 ·have:((if(decide (z<(-524288)))=true then(some true) else(some (decide (z>(262144:Int))))):Option (Bool))=some true:=by
   by_cases c1:z < -524288
   ·rw[if_pos (by simpa using c1)]
   ·rw[if_neg (by simpa using c1)];simp;omega
  rw[this,sb,if_pos rfl];exact⟨[],6,rfl,.inl ⟨rfl,rfl⟩⟩
 have:((if(decide (z<(-524288)))=true then(some true) else(some (decide (z>(262144:Int))))):Option (Bool))=some false:=by
  rw[if_neg (by simp;omega)];simp;omega
 rw[this,sb,if_neg (by simp)];obtain⟨L,a4,e4,E4,g4,h4⟩:=tk_tot hb g3 e3;rw[E4,sb];dsimp only;obtain⟨M,a5,e5,E5,g5,h5⟩:=tk_tot hb g4 e4;rw[E5,sb];dsimp only;obtain⟨P,iP,lP,bP⟩:=h4.ind;obtain⟨N,iN,lN,bN⟩:=h5.ind;obtain⟨q,a6,e6,E6,g6,h6⟩:=Z81 hb g5 e5 (m:=31) (by omega);have ES:∃ (r:List Z6) (a':Nat) (e':Int),Z03.f b (a5:Int) e5 (⟨K,i64.wrap ((i64.wrap (n:Int))+(-4)),z,0,0,0,[],[]⟩:Zh) L M=some (r,(a':Int),e')∧a'≤8*b.length∧r.length≤32∧∀ s∈r,HOk s.f1:=by
  unfold Z03.f;rw[show Z7.f b (a5:Int) e5 31=_ from E6,sb,iP,sb,iN,sb,wide_eq (by omega) (by omega),chkB (by omega)];obtain⟨r,a',e',E,k1,k2,k3⟩:=smp_tot hb iP iN lP lN bP bN (⟨K,i64.wrap ((i64.wrap (n:Int))+(-4)),z,0,0,0,[],[]⟩:Zh) ⟨hK,Z9q _,by dsimp only;omega,by dsimp only;omega⟩ ((q:Int),(a6:Int),e6) (by dsimp only;omega) 33 (List.replicate (Int.toNat ((2+P.length+N.length:Nat):Int)) 0) (List.replicate (Int.toNat ((2+P.length+N.length:Nat):Int)) 0) 0 0 [] a6 e6 0 (by omega) rfl (by simp) (by rw[List.length_replicate,Int.toNat_natCast]) (by rw[List.length_replicate,Int.toNat_natCast]) (fun x hx=>by rw[List.eq_of_mem_replicate hx];omega) (by simp) g6;dsimp only;rw[E,sb];exact⟨r,a',e',rfl,k1,k2,k3⟩
 obtain⟨r,a7,e7,E7,g7,h7,k7⟩:=ES;rw[E7,sb];dsimp only;obtain⟨w,a8,e8,E8⟩:=end_tot hb g7 e7;rw[E8,sb];dsimp only;by_cases hw:w=0
 case neg=>rw[if_pos (by simpa using hw)];exact⟨[],6,rfl,.inl ⟨rfl,rfl⟩⟩
 rw[if_neg (by simpa using hw)];obtain⟨y,e9,E9,h9,k9⟩:=enc_tot r (by omega) k7;rw[E9,sb];dsimp only;by_cases he:e9=0
 case neg=>rw[if_pos (by simpa using he),sb,if_pos rfl];exact⟨[],6,rfl,.inl ⟨rfl,rfl⟩⟩
 obtain⟨q1,q2,q3,f,q4⟩:=k9 he;rw[if_neg (by simpa using he),eqbytes y b h9,sb,sb];by_cases hyb:y=b
 ·rw[if_neg (by simp[hyb])]
  subst hyb;exact⟨r,0,rfl,.inr ⟨rfl,q1,q2,k7,q3,f,q4⟩⟩
 ·rw[if_pos (by simp[hyb])];exact⟨[],6,rfl,.inl ⟨rfl,rfl⟩⟩
end Go.Proofs.YtpoihfcehejgfaaGreat.PvGS2
namespace Go.Proofs.YtpoihfcehejgfaaGreat.PvGS2
open Go Go.Pv Go.Pv.GS Go.IntKind
def by8 (l:List Int):List Bool:=l.flatMap fun n=>nb n.toNat 8
theorem by8_len (l:List Int):(by8 l).length=8*l.length:=by
 induction l with
 | nil=>rfl
 | cons x l ih=>simp only[by8,List.flatMap_cons,List.length_append,Z5e,List.length_cons] at ih ⊢;omega
def Z78 (t:ByteArray):List Bool:=cnt2 t.size++by8 (Z3b t)
theorem Z4i (t:ByteArray):(Z3b t).length=t.size:=by simp only[Z3b,List.length_map,Array.length_toList];rfl
theorem Zag (t:ByteArray):∀ n∈Z3b t,0≤n∧n<256:=by
 intro n hn;obtain⟨c,_,rfl⟩:=List.mem_map.1 hn;have:=c.toNat_lt;omega
theorem bytesL_bt {t:ByteArray} {i:Nat} {x:Int} (h:(Z3b t)[i]? = some x):bt t (i:Int)=x:=by
 unfold Z3b at h;rw[List.getElem?_map,Array.getElem?_toList] at h;unfold bt;rw[Int.toNat_natCast];cases e:t.data[i]? with
 | none=>rw[e] at h;simp at h
 | some c=>rw[e] at h;simpa using h
theorem Z9f {x:List Int} (h:∀ n∈x,0≤n∧n<256):Z3b (Z6d x)=x:=by
 rw[strOf_eq];unfold Z3b toB;simp only[List.map_map]
 conv=>rhs;rw[← List.map_id x]
 apply List.map_congr_left;intro n hn;have:=h n hn;simp;omega
theorem text_l0 (t:ByteArray) (ht:t.size≤2000000):∀ (suf pre:List Int) (b:List Int) (f:Nat) (s:List Bool) (i:Int),Z3b t=pre++suf→i=(pre.length:Int)→s.length+8*suf.length<800000000000→Laid b f s →
  ∃ (b':List Int) (f':Nat),Z16.l0 t b (f:Int) i=some (b',(f':Int))∧Laid b' f' (s++by8 suf):=by
 intro suf
 induction suf with
 | nil =>
  intro pre b f s i h1 hi _ hL;have:=Z4i t;rw[h1] at this;refine⟨b,f,?_,by simpa[by8] using hL⟩;rw[Z16.l0,if_neg (by simp at this;simp;omega)]
 | cons x suf ih =>
  intro pre b f s i h1 hi hs hL;have hlen:=Z4i t;rw[h1] at hlen;simp only[List.length_append,List.length_cons] at hlen hs;have hx:=Zag t x (by rw[h1];simp);have hb:bt t i=x:=by rw[hi];exact bytesL_bt (by rw[h1];simp)
  obtain⟨b1,f1,e1,h2⟩:=wput hL (by omega) (n:=x) (by omega) (by omega) (k:=8) (by omega);rw[Z16.l0,if_pos (by simp;omega),chkB (by omega),hb,Z2l (by omega) (by omega),show(8:Int)=((8:Nat):Int) from rfl,e1,sb,Z8 (n:=i+1) (by omega) (by omega)];obtain⟨b2,f2,e2,h3⟩:=ih (pre++[x]) b1 f1 _ (i+1) (by simp[h1]) (by simp;omega) (by rw[List.length_append,Z5e];omega) h2;refine⟨b2,f2,e2,?_⟩;simpa[by8] using h3
theorem text_eq {b:List Int} {f:Nat} {s:List Bool} (h:Laid b f s) (t:ByteArray) (ht:t.size≤2000000) (hl:s.length<700000000000) :
  ∃ (b':List Int) (f':Nat),Z16.f b (f:Int) t=some (b',(f':Int))∧Laid b' f' (s++Z78 t):=by
 unfold Z16.f;obtain⟨b1,f1,e1,h1⟩:=Z6a h (by omega) (n:=(t.size:Int)) (by omega) (by omega);rw[Z2l (by omega) (by omega),e1,sb];rw[Int.toNat_natCast] at h1;have:=Z0t t.size;have hb:=Z4i t;obtain⟨b2,f2,e2,h2⟩:=text_l0 t ht (Z3b t) [] b1 f1 _ 0 rfl rfl (by rw[List.length_append];omega) h1;rw[e2,sb];exact⟨b2,f2,rfl,by rw[Z78,← List.append_assoc];exact h2⟩
theorem u8w {v:Int} (h0:0≤v) (h1:v<256):u8.wrap v=v:=by
 simp only[IntKind.wrap,IntKind.signed,IntKind.bits];simp;omega
theorem rep_set {n i:Nat} (h:i<n) (p:List Int) (hp:p.length=i) (y:Int):(p++List.replicate (n-i) (0:Int)).set (Int.toNat (i:Int)) y=(p++[y])++List.replicate (n-(i+1)) (0:Int):=by
 rw[show n-i=(n-(i+1))+1 from by omega,List.replicate_succ];exact(set_mid p 0 y _ (by omega)).trans (by simp)
variable {b:List Int}
theorem tk_fwd_l0 (hb:Src b) (t:Int×Int×Int) (n:Nat) (hn:n≤200000000000) (ht:t.1=(n:Int)) (z:List Bool):∀ (suf pre:List Int) (a:Nat) (i:Int),pre.length+suf.length=n→i=(pre.length:Int)→(∀ x∈suf,0≤x∧x<256)→a≤8*b.length→(Z12 b).drop a=by8 suf++z →
  Z0e.l0 b t (a:Int) 0 (pre++List.replicate (n-pre.length) (0:Int)) i=some (pre++suf,((a+8*suf.length:Nat):Int),0):=by
 intro suf
 induction suf with
 | nil =>
  intro pre a i h1 hi _ _ _;simp only[List.length_nil,Nat.add_zero] at h1;rw[Z0e.l0,if_neg (by rw[ht];simp;omega),show n-pre.length=0 from by omega];simp
 | cons x suf ih =>
  intro pre a i h1 hi hx ha hd;simp only[List.length_cons] at h1;have hx0:=hx x (by simp);have hd2:(Z12 b).drop a=nb x.toNat 8++(by8 suf++z):=by rw[hd];simp[by8]
  have hget:=get_fwd hb (k:=8) (by omega) (Z5e x.toNat 8) ha hd2;rw[val_nb,Nat.mod_eq_of_lt (by omega)] at hget;have l1:=congrArg List.length hd2;simp only[List.length_drop,Z2j,List.length_append,Z5e] at l1;have hd3:(Z12 b).drop (a+8)=by8 suf++z:=by
   rw[← List.drop_drop,hd2,List.drop_left' (Z5e ..)]
  rw[Z0e.l0,if_pos (by rw[ht];simp;omega),show(8:Int)=((8:Nat):Int) from rfl,hget,sb];rw[show at? (pre++List.replicate (n-pre.length) (0:Int)) i=some 0 from by
   rw[show n-pre.length=(n-(pre.length+1))+1 from by omega,List.replicate_succ];exact Zc6 pre 0 _ hi,sb]
  dsimp only;rw[hi,rep_set (by omega) pre rfl,Z8 (n:=(pre.length:Int)+1) (by omega) (by omega)];have hw:u8.wrap ((x.toNat:Nat):Int)=x:=by rw[show((x.toNat:Nat):Int)=x from by omega];exact u8w (by omega) (by omega)
  rw[hw];have:=ih (pre++[x]) (a+8) ((pre.length:Int)+1) (by simp;omega) (by simp) (fun y hy=>hx y (by simp[hy])) (by omega) hd3;simp only[List.length_append,List.length_singleton] at this;rw[this];simp only[List.append_assoc,List.singleton_append,List.length_cons];congr 4;omega
theorem left_ok (a e:Int):Z0u.f b a e=some ():=rfl
theorem by8_of:∀ (m:Nat) (s:List Bool),8*m≤s.length→∃ suf:List Int,suf.length=m∧(∀ x∈suf,0≤x∧x<256)∧s=by8 suf++s.drop (8*m):=by
 intro m
 induction m with
 | zero=>intro s _;exact⟨[],rfl,by simp,by simp[by8]⟩
 | succ m ih =>
  intro s hs;obtain⟨suf,h1,h2,h3⟩:=ih (s.drop 8) (by rw[List.length_drop];omega);have hv:=val_lt (s.take 8);have hl8:(s.take 8).length=8:=by rw[List.length_take];omega
  rw[hl8] at hv;refine⟨((val (s.take 8):Nat):Int)::suf,by simp[h1],fun x hx => ?_,?_⟩
  ·rcases List.mem_cons.1 hx with rfl | hx
   ·omega
   ·exact h2 x hx
  ·have e:=nb_val (s.take 8)
   rw[hl8] at e;have e2:by8 (((val (s.take 8):Nat):Int)::suf)=s.take 8++by8 suf:=by
    simp only[by8,List.flatMap_cons,Int.toNat_natCast,e]
   rw[e2,List.append_assoc]
   conv=>lhs;rw[← List.take_append_drop 8 s,h3]
   rw[List.drop_drop,show 8+8*m=8*(m+1) from by omega]
end Go.Proofs.YtpoihfcehejgfaaGreat.PvGS2
namespace Go.Proofs.YtpoihfcehejgfaaGreat.PvGS2
open Go Go.Pv Go.Pv.GS Go.IntKind
theorem laid_src {x:List Int} {f:Nat} {l:List Z6} (h:Laid x f (Z6s l)) (hc:COk l) (hk:∀ s∈l,HOk s.f1):Src x∧x.length≤400000:=by
 have h1:=h.len;have h2:=h.lt;have h3:=Z9u hc (fun s hs=>(hk s hs).fits);exact⟨⟨h.byte,by omega⟩,by omega⟩
def Z8d (l:List Z6):Prop:=∀ pre s suf,l=pre++s::suf→Z18.f pre s=some true
theorem fits_nil (s:Z6):Z18.f [] s=some true:=by unfold Z18.f;rw[if_pos (by simp)]
theorem Z8d.one (s:Z6):Z8d [s]:=by
 intro pre x suf h;cases pre with
 | nil=>exact fits_nil x
 | cons y r=>simp at h
theorem Z8d.pre {a b:List Z6} (h:Z8d (a++b)):Z8d a:=fun pre s suf e=>h pre s (suf++b) (by rw[e];simp)
theorem Z8d.snoc {a:List Z6} {s:Z6} (h:Z8d a) (hs:Z18.f a s=some true):Z8d (a++[s]):=by
 intro pre x suf e;rcases List.eq_nil_or_concat suf with rfl | ⟨S,y,rfl⟩
 ·obtain⟨rfl,e2⟩:=List.append_inj' e rfl
  simp at e2;subst e2;exact hs
 ·rw[List.concat_eq_append] at e
  have e3:a++[s]=(pre++x::S)++[y]:=by rw[e];simp
  obtain⟨rfl,_⟩:=List.append_inj' e3 rfl;exact h pre x S rfl
structure SOk (s:Z6):Prop where
 v:Z24 s.f1
 f:Fits s.f1
 t:0≤s.f0∧s.f0≤1099511627776
theorem tst (x:Int):((if(decide (x<(0:Int)))=true then(some true) else(some (decide (x>(1099511627776:Int))))):Option (Bool))=some (!decide (0≤x∧x≤1099511627776)):=by
 by_cases c:x<0
 ·rw[if_pos (by simpa using c),decide_eq_false (by omega)];rfl
 ·rw[if_neg (by simpa using c)]
  by_cases c2:x>1099511627776
  ·rw[decide_eq_true c2,decide_eq_false (by omega)];rfl
  ·rw[decide_eq_false c2,decide_eq_true (by omega)];rfl
theorem check0 {s:Z6} (h:SOk s):Z0d.f s.f1=some 0:=by
 obtain⟨r,e1,e3⟩:=Ze8 s.f1 h.f;rw[e1,e3.2 h.v]
open Classical in
theorem grow_l0 (l:List Z6) (hl:l.length≤900) (hk:∀ s∈l,SOk s):∀ (suf pre:List Z6) (i:Int),l=pre++suf→i=(pre.length:Int) →
  Z0l.l0 l i=some (if ∀ p s q,suf=p++s::q→Z18.f (pre++p) s=some true then .inr () else .inl 6):=by
 intro suf
 induction suf with
 | nil =>
  intro pre i h1 hi;rw[Z0l.l0,if_neg (by rw[h1];simp[hi]),if_pos (fun p s q h=>by simp at h)]
 | cons s suf ih =>
  intro pre i h1 hi;have hlen:l.length=pre.length+(suf.length+1):=by rw[h1];simp
  have hs:=hk s (by rw[h1];simp);have hb:¬ ((!decide (0≤s.f0∧s.f0≤1099511627776))=true):=by rw[decide_eq_true hs.t];decide
  obtain⟨r,f1,_⟩:=fits_p pre s (by omega) (fun x hx=>by
   have:x∈l:=by rw[h1];rcases List.mem_append.1 hx with hx | hx;exact List.mem_append_left _ hx;simp at hx;subst hx;simp
   exact⟨(hk x this).v,(hk x this).f⟩) hs.t
  rw[Z0l.l0,if_pos (by simp;omega),Z06 h1 hi,sb,tst,sb,if_neg hb,check0 hs,sb,if_neg (by simp),chkB (by omega),take_pre h1 hi,Z8 (n:=i+1) (by omega) (by omega),f1,sb];cases r with
  | false =>
   rw[if_pos (show(!false)=true from rfl),if_neg];intro h;have:=h [] s suf rfl;rw[List.append_nil,f1] at this;simp at this
  | true =>
   rw[if_neg (show ¬ ((!true)=true) by simp),ih (pre++[s]) (i+1) (by simp[h1]) (by simp;omega)];congr 1;by_cases c:∀ p x q,suf=p++x::q→Z18.f (pre++[s]++p) x=some true
   ·rw[if_pos c,if_pos]
    intro p x q e;cases p with
    | nil=>simp at e;obtain⟨rfl,rfl⟩:=e;rw[List.append_nil];exact f1
    | cons y p=>simp at e;obtain⟨rfl,rfl⟩:=e;have:=c p x q rfl;simpa using this
   ·rw[if_neg c,if_neg]
    intro h;refine c (fun p x q e => ?_);have:=h (s::p) x q (by rw[e];rfl);simpa using this
open Classical in
theorem grow_chk (l:List Z6) (hl:l.length≤900) (hne:l≠[]) (hk:∀ s∈l,SOk s):Z0l.f l=some (if Z8d l then 0 else 6):=by
 have hn:¬ (((l.length:Int)==0)=true):=by
  have:l.length≠0:=fun h=>hne (List.length_eq_zero_iff.1 h);simp;omega
 unfold Z0l.f;rw[if_neg hn,grow_l0 l hl hk l [] 0 rfl rfl,sb];have e:(∀ p s q,l=p++s::q→Z18.f ([]++p) s=some true)↔Z8d l:=by simp[Z8d]
 by_cases h:Z8d l
 ·rw[if_pos (e.2 h),if_pos h]
 ·rw[if_neg (fun x=>h (e.1 x)),if_neg h]
structure CutOK (C:List (List Z6)):Prop where
 ne:∀ c∈C,c≠[]∧Z8d c
 gap:∀ i c c',C[i]? = some c→C[i+1]? = some c'→∃ s r,c'=s::r∧Z18.f c s=some false
theorem flat_len {C:List (List Z6)} (h:∀ c∈C,c≠[]):C.length≤C.flatten.length:=by
 induction C with
 | nil=>simp
 | cons c C ih =>
  have h1:=ih (fun x hx=>h x (by simp[hx]));have h2:=List.length_pos_iff.2 (h c (by simp));simp only[List.flatten_cons,List.length_append,List.length_cons];omega
theorem CutOK.snoc {D:List (List Z6)} {c:List Z6} {s:Z6} (h:CutOK (D++[c])) (hs:Z18.f c s=some false):CutOK (D++[c]++[[s]]):=by
 refine⟨fun x hx => ?_,fun i x x' h1 h2 => ?_⟩
 ·rcases List.mem_append.1 hx with hx | hx
  ·exact h.ne x hx
  ·simp at hx;subst hx;exact⟨by simp,Z8d.one s⟩
 ·by_cases hi:i+1<(D++[c]).length
  ·rw[List.getElem?_append_left (by omega)] at h1 h2
   exact h.gap i x x' h1 h2
  ·rw[List.getElem?_append_right (by omega)] at h2
   obtain⟨h3,h4⟩:=List.getElem?_eq_some_iff.1 h2;simp only[List.length_singleton] at h3;have e:i=D.length:=by simp at hi h3;omega
   rw[List.getElem?_append_left (by simp;omega),e,List.getElem?_append_right (by omega)] at h1;simp at h1;subst h1;refine⟨s,[],?_,hs⟩;rw[← h4];simp[e]
def Zc8 (t:Int):Bool:=decide (0≤t∧t≤1099511627776)
open Classical in
noncomputable def sok (s:Z6):Bool:=Zc8 s.f0&&decide (Z24 s.f1)
def aft (p:Option Z6) (s:Z6):Bool:=match p with
 | none=>true
 | some q=>decide (q.f0<s.f0)
noncomputable def good (p:Option Z6) (s:Z6):Bool:=sok s&&aft p s
noncomputable def rise:Option Z6→List Z6→Bool
 | _,[]=>true
 | p,s::l=>good p s&&rise (some s) l
def lst:Option Z6→List Z6→Option Z6
 | p,[]=>p
 | _,s::l=>lst (some s) l
theorem lst_app (a b:List Z6):∀ p,lst p (a++b)=lst (lst p a) b:=by
 induction a with
 | nil=>intro p;rfl
 | cons s a ih=>intro p;exact ih _
theorem Zcz (a:List Z6) (s:Z6) (p:Option Z6):lst p (a++[s])=some s:=by rw[lst_app];rfl
def flow (b:Bool):Bool ⊕ Unit:=match b with
 | true=>.inr ()
 | false=>.inl false
theorem ris_step (s:Z6) (hf:Fits s.f1) {l pre suf:List Z6} {i:Int} (h1:l=pre++s::suf) (hi:i=(pre.length:Int)) (hl:l.length<1000000000000000) :
  ((if(decide (s.f0<(0:Int)))=true then(some true) else(if(decide (s.f0>(1099511627776:Int)))=true then(some true) else((Z0d.f s.f1)>>=fun t508=>if(t508 != (0:Int))=true then(some true) else(if(decide (i>(0:Int)))=true then((at? l (i64.wrap (i-(1:Int))))>>=fun b512=>some (decide (b512.f0≥s.f0))) else(some false))))):Option (Bool))=some (!good (lst none pre) s):=by
 have hlen:l.length=pre.length+(suf.length+1):=by rw[h1];simp
 by_cases t0:s.f0<0
 ·rw[if_pos (decide_eq_true t0)]
  have:Zc8 s.f0=false:=decide_eq_false (by omega);simp[good,sok,this]
 rw[if_neg (by simpa using t0)];by_cases t1:s.f0>1099511627776
 ·rw[if_pos (decide_eq_true t1)]
  have:Zc8 s.f0=false:=decide_eq_false (by omega);simp[good,sok,this]
 rw[if_neg (by simpa using t1)];have ht:Zc8 s.f0=true:=decide_eq_true (by omega);obtain⟨e,e1,e3⟩:=Ze8 s.f1 hf;rw[e1,sb];by_cases he:e=0
 case neg =>
  rw[if_pos (by simpa using he)];have:¬ Z24 s.f1:=fun h=>he (e3.2 h);simp[good,sok,this]
 rw[if_neg (by simpa using he)];have hv:=e3.1 he;rcases List.eq_nil_or_concat pre with rfl | ⟨Q,q,rfl⟩
 ·rw[if_neg (by simp[hi])]
  simp[good,sok,ht,hv,lst,aft]
 ·rw[List.concat_eq_append] at *
  have hi3:i=(Q.length:Int)+1:=by rw[hi];simp
  simp only[List.length_append,List.length_singleton] at hlen;rw[if_pos (decide_eq_true (by omega)),Z8 (n:=i-1) (by omega) (by omega)];rw[show at? l (i-1)=some q from Z06 (pre:=Q) (suf:=s::suf) (by rw[h1];simp) (by omega),sb,Zcz];simp only[good,sok,ht,hv,aft,Bool.true_and,decide_true];congr 1;by_cases c:q.f0<s.f0
  ·rw[decide_eq_false (by omega),decide_eq_true c];rfl
  ·rw[decide_eq_true (by omega),decide_eq_false c];rfl
theorem ris_l0 (l:List Z6) (hl:l.length<1000000000000000) (hf:∀ s∈l,Fits s.f1):∀ (suf pre:List Z6) (i:Int),l=pre++suf→i=(pre.length:Int)→Z1g.l0 l i=some (flow (rise (lst none pre) suf)):=by
 intro suf
 induction suf with
 | nil=>intro pre i h1 hi;rw[Z1g.l0,if_neg (by rw[h1];simp[hi])];rfl
 | cons s suf ih =>
  intro pre i h1 hi;have hlen:l.length=pre.length+(suf.length+1):=by rw[h1];simp
  have hst:=ris_step s (hf s (by rw[h1];simp)) h1 hi hl;have hr:rise (lst none pre) (s::suf)=(good (lst none pre) s&&rise (some s) suf):=rfl;rw[hr];cases g:good (lst none pre) s with
  | false =>
   rw[g] at hst;rw[Z1g.l0,if_pos (by simp;omega),Z06 h1 hi,sb,hst,sb,if_pos (show(!false)=true from rfl)];rfl
  | true =>
   rw[g] at hst;rw[Z1g.l0,if_pos (by simp;omega),Z06 h1 hi,sb,hst,sb,if_neg (show ¬ (!true)=true by simp),Z8 (n:=i+1) (by omega) (by omega),ih (pre++[s]) (i+1) (by simp[h1]) (by simp;omega),Zcz,Bool.true_and]
theorem ris_eq (l:List Z6) (hl:l.length<1000000000000000) (hf:∀ s∈l,Fits s.f1):Z1g.f l=some (rise none l):=by
 unfold Z1g.f;rw[ris_l0 l hl hf l [] 0 rfl rfl,sb];show(match flow (rise none l) with | .inl rr=>(some rr) | .inr _=>(some true))=some (rise none l);obtain⟨b,hb⟩:∃ b,rise none l=b:=⟨_,rfl⟩
 rw[hb];cases b<;>rfl
theorem rtime (t:Int):Z50.f t=some (Zc8 t):=by
 unfold Z50.f Zc8;by_cases h:t≥0
 ·rw[if_pos (decide_eq_true h),sb];congr 1;apply Bool.eq_iff_iff.2;simp;omega
 ·rw[if_neg (by simpa using h),sb];congr 1;rw[decide_eq_false (by omega)]
theorem rris_l0 (l:List Z6) (hl:l.length<1000000000000000) (hf:∀ s∈l,Fits s.f1∧s.f1.f6.length<1000000000000000∧s.f1.f7.length<1000000000000000):∀ (suf pre:List Z6) (i:Int),l=pre++suf→i=(pre.length:Int)→Z2r.l0 l i=some (flow (rise (lst none pre) suf)):=by
 intro suf
 induction suf with
 | nil=>intro pre i h1 hi;rw[Z2r.l0,if_neg (by rw[h1];simp[hi])];rfl
 | cons s suf ih =>
  intro pre i h1 hi;have hlen:l.length=pre.length+(suf.length+1):=by rw[h1];simp
  have hs:=hf s (by rw[h1];simp);have step:((((at? l i)>>=fun b6847=>(Z50.f b6847.f0)>>=fun t6850=>if(!t6850)=true then(some true) else((Z07.f b6847.f1)>>=fun t6853=>if(t6853 != (0:Int))=true then(some true) else(if(decide (i>(0:Int)))=true then((at? l (i64.wrap (i-(1:Int))))>>=fun b6857=>some (decide (b6847.f0≤b6857.f0))) else(some false)))):Option (Bool)))=some (!good (lst none pre) s):=by
   rw[Z06 h1 hi,sb,rtime,sb];cases ht:Zc8 s.f0 with
   | false=>rw[if_pos (show(!false)=true from rfl)];simp[good,sok,ht]
   | true =>
    rw[if_neg (by simp)];obtain⟨e,_,e1,e3⟩:=check_same s.f1 hs.1 hs.2.1 hs.2.2;rw[e1,sb];by_cases he:e=0
    case neg =>
     rw[if_pos (by simpa using he)];have:¬ Z24 s.f1:=fun h=>he (e3.2 h);simp[good,sok,this]
    rw[if_neg (by simpa using he)];have hv:=e3.1 he;rcases List.eq_nil_or_concat pre with rfl | ⟨Q,q,rfl⟩
    ·rw[if_neg (by simp[hi])]
     simp[good,sok,ht,hv,lst,aft]
    ·rw[List.concat_eq_append] at *
     have hi3:i=(Q.length:Int)+1:=by rw[hi];simp
     simp only[List.length_append,List.length_singleton] at hlen;rw[if_pos (decide_eq_true (by omega)),Z8 (n:=i-1) (by omega) (by omega)];rw[show at? l (i-1)=some q from Z06 (pre:=Q) (suf:=s::suf) (by rw[h1];simp) (by omega),sb,Zcz];simp only[good,sok,ht,hv,aft,Bool.true_and,decide_true];congr 1;by_cases c:q.f0<s.f0
     ·rw[decide_eq_false (by omega),decide_eq_true c];rfl
     ·rw[decide_eq_true (by omega),decide_eq_false c];rfl
  have hst:=step;have hr:rise (lst none pre) (s::suf)=(good (lst none pre) s&&rise (some s) suf):=rfl;rw[hr];cases g:good (lst none pre) s with
  | false =>
   rw[g] at hst;rw[Z2r.l0,if_pos (by simp;omega),hst,sb,if_pos (show(!false)=true from rfl)];rfl
  | true =>
   rw[g] at hst;rw[Z2r.l0,if_pos (by simp;omega),hst,sb,if_neg (show ¬ (!true)=true by simp),Z8 (n:=i+1) (by omega) (by omega),ih (pre++[s]) (i+1) (by simp[h1]) (by simp;omega),Zcz,Bool.true_and]
theorem rris_eq (l:List Z6) (hl:l.length<1000000000000000) (hf:∀ s∈l,Fits s.f1∧s.f1.f6.length<1000000000000000∧s.f1.f7.length<1000000000000000):Z2r.f l=some (rise none l):=by
 unfold Z2r.f;rw[rris_l0 l hl hf l [] 0 rfl rfl,sb];show(match flow (rise none l) with | .inl rr=>(some rr) | .inr _=>(some true))=some (rise none l);obtain⟨b,hb⟩:∃ b,rise none l=b:=⟨_,rfl⟩
 rw[hb];cases b<;>rfl
theorem sok_inv {s:Z6} (hf:Fits s.f1) (h:sok s=true):SOk s:=by
 unfold sok Zc8 at h;simp only[Bool.and_eq_true,decide_eq_true_eq] at h;exact⟨h.2,hf,h.1⟩
theorem SOk.cok {s:Z6} (h:SOk s):COk [s]:=fit_nil s h.v h.t
theorem SOk.hok {s:Z6} (h:SOk s):HOk s.f1:=⟨h.f,h.v.pos.len,h.v.neg.len⟩
def encX (l:List Z6):List Int:=((Zw.f l).getD ([],0)).1
theorem encX_eq {l:List Z6} (hc:COk l) (hne:l≠[]) (hk:∀ s∈l,HOk s.f1) (h0:Z0l.f l=some 0):Zw.f l=some (encX l,0)∧(∃ f,Laid (encX l) f (Z6s l))∧(encX l).length≤400000:=by
 obtain⟨x,f,e,h⟩:=enc_eq hc hne (fun s hs=>(hk s hs).fits) h0;have hx:encX l=x:=by unfold encX;rw[e];rfl
 rw[hx];exact⟨e,⟨f,h⟩,(laid_src h hc hk).2⟩
theorem Zbv {x:List Int} {f:Nat} {s:List Bool} (h:Laid x f s):∀ n∈x,0≤n∧n<256:=fun n hn=>h.byte n hn
variable {b:List Int}
theorem Zb5 (a e:Int):Zu.f b a e=some ():=rfl
end Go.Proofs.YtpoihfcehejgfaaGreat.PvGS2
namespace Go.Proofs.YtpoihfcehejgfaaGreat.PvGS2
open Go Go.Pv Go.Pv.GS Go.IntKind
structure Chu (c:List Z6):Prop where
 cok:COk c
 ne:c≠[]
 k:∀ s∈c,HOk s.f1
 h0:Z0l.f c=some 0
def Zep (D:List (List Z6)):List Bool:=D.flatMap fun c=>Z78 (Z6d (encX c))
variable {b:List Int}
end Go.Proofs.YtpoihfcehejgfaaGreat.PvGS2
namespace Go.Proofs.YtpoihfcehejgfaaGreat.PvGS2
open Go Go.Pv Go.Pv.GS Go.IntKind
variable {b:List Int}
theorem tk_bad_l0 (hb:Src b) (t:Int×Int×Int) (n:Nat) (hn:n≤200000000000) (ht:t.1=(n:Int)):∀ (m:Nat) (pre:List Int) (a:Nat) (e i:Int),pre.length+m=n→i=(pre.length:Int)→a≤8*b.length→(e≠0∨(e=0∧8*b.length<a+8*m)) →
  ∃ (l:List Int) (a1:Nat) (e1:Int),Z0e.l0 b t (a:Int) e (pre++List.replicate (n-pre.length) (0:Int)) i=some (l,(a1:Int),e1)∧a1≤8*b.length∧e1≠0∧l.length=n:=by
 intro m
 induction m with
 | zero =>
  intro pre a e i h1 hi ha he;rw[Z0e.l0,if_neg (by rw[ht];simp;omega)];refine⟨_,a,e,rfl,ha,?_,by simp;omega⟩;rcases he with he | ⟨_,he⟩
  ·exact he
  ·omega
 | succ m ih =>
  intro pre a e i h1 hi ha he;have key:∃ (v:Int) (a2:Nat) (e2:Int),Zk.f b (a:Int) e 8=some (v,(a2:Int),e2)∧a2≤8*b.length∧(e2≠0∨(e2=0∧8*b.length<a2+8*m)):=by
   rcases he with he | ⟨rfl,he⟩
   ·exact⟨0,a,e,get_bad (b:=b) (k:=8) (by omega) he,ha,.inl he⟩
   ·rcases Zd2      hb (k:=8) (by omega) ha with ⟨h2,h3⟩ | ⟨h2,h3⟩
    ·exact⟨_,_,_,h3,h2,.inr ⟨rfl,by omega⟩⟩
    ·exact⟨_,_,_,h3,Nat.le_refl _,.inl (by decide)⟩
  obtain⟨v,a2,e2,g1,g2,g3⟩:=key;rw[Z0e.l0,if_pos (by rw[ht];simp;omega),g1,sb];rw[show at? (pre++List.replicate (n-pre.length) (0:Int)) i=some 0 from by
   rw[show n-pre.length=(n-(pre.length+1))+1 from by omega,List.replicate_succ];exact Zc6 pre 0 _ hi,sb]
  dsimp only;rw[hi,rep_set (by omega) pre rfl,Z8 (n:=(pre.length:Int)+1) (by omega) (by omega)];have:=ih (pre++[u8.wrap v]) a2 e2 ((pre.length:Int)+1) (by simp;omega) (by simp) g2 g3;simp only[List.length_append,List.length_singleton] at this;exact this
theorem left_div {a:Nat} (ha:a≤8*b.length) (hB:b.length<1000000000000):i64.wrap (Int.tdiv (i64.wrap ((i64.wrap ((8:Int)*(b.length:Int)))-(a:Int))) (8:Int))=(((8*b.length-a) / 8:Nat):Int):=by
 have hdiv:(8*(b.length:Int)-(a:Int)).tdiv 8=(((8*b.length-a) / 8:Nat):Int):=by
  rw[show 8*(b.length:Int)-(a:Int)=((8*b.length-a:Nat):Int) from by omega];exact(Int.ofNat_tdiv _ 8).symm
 rw[Z8 (n:=8*(b.length:Int)) (by omega) (by omega),Z8 (n:=8*(b.length:Int)-_) (by omega) (by omega),hdiv,Z8 (by omega) (by omega)]
theorem Zet (l:List Int):(Z6d l).size=l.length:=by rw[strOf_eq];simp[ByteArray.size,toB]
theorem Zf8 (hb:Src b) {a:Nat} (ha:a≤8*b.length) (e:Int):∃ (t:ByteArray) (a1:Nat) (e1:Int),Z0e.f b (a:Int) e=some (t,(a1:Int),e1)∧a1≤8*b.length∧t.size≤b.length ∧
  (e≠0→e1≠0)∧(e=0→e1=0→(Z12 b).drop a=Z78 t++(Z12 b).drop a1):=by
 have hB:=hb.len;unfold Z0e.f;by_cases he:e=0
 case neg =>
  refine⟨⟨#[]⟩,a,e,?_,ha,Nat.zero_le _,fun _=>he,fun h=>absurd h he⟩;rw[left_ok,sb,Zas he,sb];dsimp only;rw[chkB (by omega),Z0e.l0,if_neg (by simp),sb];rfl
 subst he;obtain⟨n,a1,e1,s1,s2,s3,s4⟩:=Zdb hb (m:=(8*b.length-a) / 8) (by omega) ha;rw[left_ok,sb,left_div ha (by omega),s1,sb];dsimp only;rw[chkB (by omega),Int.toNat_natCast];rcases s4 with ⟨rfl,s5⟩ | ⟨s5,rfl⟩
 case inr =>
  refine⟨⟨#[]⟩,a1,e1,?_,s2,Nat.zero_le _,fun h=>absurd rfl h,fun _ h=>absurd h s5⟩;rw[Z0e.l0,if_neg (by simp),sb];rfl
 by_cases hn:8*n≤8*b.length-a1
 ·have hl:8*n≤((Z12    b).drop a1).length:=by rw[List.length_drop,Z2j       ];omega
  obtain⟨suf,k1,k2,k3⟩:=by8_of n _ hl;have hsz:(Z6d suf).size=n:=by rw[← Z4i,Z9f k2,k1]
  have hB8:Z78 (Z6d suf)=cnt2 n++by8 suf:=by rw[Z78,hsz,Z9f k2]
  have hd:(Z12 b).drop a=Z78 (Z6d suf)++((Z12 b).drop a1).drop (8*n):=by rw[hB8,List.append_assoc,← k3];exact s5
  have:=tk_fwd_l0 hb ((n:Int),(a1:Int),0) n (by omega) rfl _ suf [] a1 0 (by simpa using k1) rfl k2 s2 k3;simp only[List.nil_append,List.length_nil,Nat.sub_zero] at this;rw[this,sb];refine⟨Z6d suf,a1+8*suf.length,0,rfl,by omega,by omega,fun h=>absurd rfl h,fun _ _ => ?_⟩;rw[hd,List.drop_drop,k1]
 ·obtain⟨l,a2,e2,g1,g2,g3,g4⟩:=tk_bad_l0 hb ((n:Int),(a1:Int),0) n (by omega) rfl n [] a1 0 0 (by simp) rfl s2 (.inr ⟨rfl,by omega⟩)
  simp only[List.nil_append,List.length_nil,Nat.sub_zero] at g1;rw[g1,sb];exact⟨Z6d l,a2,e2,rfl,g2,by rw[Zet,g4];omega,fun h=>absurd rfl h,fun _ h=>absurd h g3⟩
end Go.Proofs.YtpoihfcehejgfaaGreat.PvGS2
namespace Go.Proofs.YtpoihfcehejgfaaGreat.PvGS2
open Go Go.Pv Go.Pv.GS Go.IntKind
def keyB (s:ByteArray):Bool:=match Z0h.f s with
 | some (_,e)=>e==0
 | none=>false
theorem key_iff (s:ByteArray) (hs:s.size≤2000000):keyB s=true↔∃ x,chkC x=0∧L s=keyL x:=by
 unfold keyB;obtain⟨x,e,h,h2⟩:=Zf0 s hs;rw[h];dsimp only;rcases h2 with ⟨rfl,h3,h4⟩ | ⟨rfl,_,h3⟩
 ·simp;exact⟨x,h3,h4⟩
 ·simp;exact h3
theorem rk_l0:∀ (n:Nat) (s:ByteArray) (acc:List ByteArray),s.size≤n→s.size≤2000000→acc.length+s.size≤4000000 →
  (Z29.l0 s acc=some (.inl false)∧∀ ws:List ByteArray,(∀ w∈ws,w.size<256)→L s≠Z55 ws)∨(∃ ws,Z29.l0 s acc=some (.inr (acc++ws))∧(∀ w∈ws,w.size<256)∧L s=Z55 ws∧ws.length≤s.size):=by
 intro n
 induction n with
 | zero =>
  intro s acc hn h5 ha;rw[Z29.l0,if_neg (by rw[decide_eq_true_eq];omega)];have:L s=[]:=List.length_eq_zero_iff.1 (by rw[Z56];omega);exact .inr ⟨[],by simp,by simp,by rw[this];rfl,by simp⟩
 | succ n ih =>
  intro s acc hn h5 ha;by_cases h0:0<s.size
  case neg =>
   rw[Z29.l0,if_neg (by rw[decide_eq_true_eq];omega)];have:L s=[]:=List.length_eq_zero_iff.1 (by rw[Z56];omega);exact .inr ⟨[],by simp,by simp,by rw[this];rfl,by simp⟩
  obtain⟨c,r,hc,hr,hbt⟩:=L_cons_of h0;have hcl:=c.toNat_lt;have hword:∀ ws:List ByteArray,(∀ w∈ws,w.size<256)→L s=Z55 ws→∃ w ws',ws=w::ws'∧w.size=c.toNat∧r=L w++Z55 ws':=fun ws hw e=>by
   cases ws with
   | nil=>rw[hc] at e;simp[Z55] at e
   | cons w ws' =>
    rw[hc,Z41,word,List.cons_append,List.cons.injEq] at e;refine⟨w,ws',rfl,?_,e.2⟩;have:=hw w (by simp);rw[e.1,UInt8.toNat_ofNat',Nat.mod_eq_of_lt (by omega)]
  rw[Z29.l0,if_pos (by simp;omega),chkB (by omega),hbt,Z8 (n:=(c.toNat:Int)) (by omega) (by omega),Z8 (n:=(c.toNat:Int)+1) (by omega) (by omega)];by_cases hle:(c.toNat:Int)+1>(s.size:Int)
  ·rw[if_pos (by simpa using hle)]
   refine .inl ⟨rfl,fun ws hw e => ?_⟩;obtain⟨w,ws',_,h1,h2⟩:=hword ws hw e;have:=congrArg List.length h2;rw[List.length_append,Z56] at this;omega
  ·have e1:Int.toNat ((c.toNat:Int)+1)=1+c.toNat:=by omega
   have l1:L (s.extract (Int.toNat 1) (Int.toNat ((c.toNat:Int)+1)))=r.take c.toNat:=by
    rw[Z8c,e1,hc];simp
   have l2:L (s.extract (Int.toNat ((c.toNat:Int)+1)) (Int.toNat (s.size:Int)))=r.drop c.toNat:=by
    rw[Z8c,e1,hc,Int.toNat_natCast,Nat.add_comm 1 c.toNat,List.drop_succ_cons,List.take_of_length_le (by simp;omega)]
   have s1:(s.extract (Int.toNat 1) (Int.toNat ((c.toNat:Int)+1))).size=c.toNat:=by rw[← Z56,l1,List.length_take];omega
   have s2:(s.extract (Int.toNat ((c.toNat:Int)+1)) (Int.toNat (s.size:Int))).size=s.size-1-c.toNat:=by rw[← Z56,l2,List.length_drop];omega
   rw[if_neg (by simpa using hle),chkB (by omega),chkB (by simp;omega),chkB (by omega)];generalize s.extract (Int.toNat 1) (Int.toNat ((c.toNat:Int)+1))=w0 at *;generalize s.extract (Int.toNat ((c.toNat:Int)+1)) (Int.toNat (s.size:Int))=rest at *;rcases ih rest (acc++[w0]) (by omega) (by omega) (by simp;omega) with ⟨g1,g2⟩ | ⟨ws,g1,g2,g3,g4⟩
   ·refine .inl ⟨g1,fun ws hw e => ?_⟩
    obtain⟨w,ws',rfl,h1,h2⟩:=hword ws hw e;refine g2 ws' (fun z hz=>hw z (by simp[hz])) ?_;rw[l2,h2,← h1,← Z56,List.drop_left]
   ·refine .inr ⟨w0::ws,by rw[g1];simp,fun z hz => ?_,?_,by simp;omega⟩
    ·rcases List.mem_cons.1 hz with rfl | hz
     ·omega
     ·exact g2 z hz
    ·rw[Z41        ,word,← g3,l1,l2,s1,hc]
     have:UInt8.ofNat c.toNat=c:=UInt8.ofNat_toNat;rw[this,List.cons_append,List.take_append_drop]
theorem rk_l1 (ws:List ByteArray) (hl:ws.length≤4000000):∀ (m:Nat) (pre suf:List ByteArray) (o:List Z0f) (i:Int),suf.length=2*m→ws=pre++suf→i=(pre.length:Int)→o.length≤pre.length→Z29.l1 ws o i=some (o++Z6w suf):=by
 intro m
 induction m with
 | zero =>
  intro pre suf o i hm h1 hi ho;have:suf=[]:=List.length_eq_zero_iff.1 hm;subst this;have hlen:ws.length=pre.length:=by rw[h1];simp
  rw[Z29.l1,Z8 (n:=i+1) (by omega) (by omega),if_neg (by simp;omega)];simp[Z6w]
 | succ m ih =>
  intro pre suf o i hm h1 hi ho
  match suf,hm with
  | a::b::suf,hm =>
   have hlen:ws.length=pre.length+(suf.length+2):=by rw[h1];simp
   rw[Z29.l1,Z8 (n:=i+1) (by omega) (by omega),if_pos (by simp;omega),Z06 h1 hi,sb,Z06 (pre:=pre++[a]) (suf:=suf) (x:=b) (by rw[h1];simp) (by simp;omega),sb,chkB (by simp;omega),Z8 (n:=i+2) (by omega) (by omega)];rw[ih (pre++[a,b]) suf _ (i+2) (by simp at hm;omega) (by rw[h1];simp) (by simp;omega) (by simp;omega),Z6w];simp
theorem rkey15 (s:ByteArray) (hs:s.size≤2000000):Z29.f s=some (keyB s):=by
 have hiff:=key_iff s hs;have flat256:∀ x',chkC x'=0→∀ w∈Z4m x',w.size<256:=fun x' h w hw=>by
  obtain⟨z,hz,hw⟩:=List.mem_flatMap.1 hw;have:=Zab (Ze6 h).2 z hz;simp at hw;rcases hw with rfl | rfl
  ·have:=this.1;omega
  ·have:=this.2;omega
 have no:(¬ ∃ x,chkC x=0∧L s=keyL x)→keyB s=false:=fun h=>by
  cases e:keyB s with
  | false=>rfl
  | true=>exact absurd (hiff.1 e) h
 unfold Z29.f;rcases rk_l0 s.size s [] (Nat.le_refl _) hs (by simp;omega) with ⟨g1,g2⟩ | ⟨ws,g1,g2,g3,g4⟩
 ·rw[g1,sb]
  dsimp only;rw[no (fun⟨x',h,e⟩=>g2 (Z4m x') (flat256 x' h) (by rw[e,Z6q]))]
 ·rw[g1,sb,List.nil_append]
  dsimp only;have ht:Int.tmod (ws.length:Int) 2=((ws.length % 2:Nat):Int):=by rw[Int.tmod_eq_emod_of_nonneg (by omega)];omega
  have huniq:∀ x',chkC x'=0→L s=keyL x'→ws=Z4m x':=fun x' h e=>Zbc g2 (flat256 x' h) (by rw[← g3,e,Z6q])
  have heven:∀ x':List Z0f,(Z4m x').length % 2=0:=fun x'=>by
   induction x' with
   | nil=>rfl
   | cons z x' ih =>
    have:Z4m (z::x')=z.f0::z.f1::Z4m x':=by simp[Z4m]
    rw[this];simp;omega
  rw[ht];by_cases hodd:ws.length % 2=1
  ·rw[if_pos (by simp;omega),no (fun⟨x',h,e⟩=>by
    have:=huniq x' h e;have h2:=heven x';rw[← this] at h2;omega)]
  ·rw[if_neg (by simp;omega),rk_l1 ws (by omega) (ws.length / 2) [] ws [] 0 (by omega) rfl rfl (by simp),sb,List.nil_append,rcheck,sb]
   by_cases hc:chkC (Z6w ws)=0
   ·rw[hc,hiff.2 ⟨Z6w ws,hc,by rw[g3,Z6q,Zby ws (by omega)]⟩];rfl
   ·rw[no (fun⟨x',h,e⟩=>by
     have:=huniq x' h e;rw[this,Zbn] at hc;exact hc h)]
    congr 1;simpa using hc
theorem by8_bits (l:List Int):by8 l=Z12 l:=by
 unfold by8 Z12;congr 1
theorem Z77 (t:ByteArray):(Z78 t).length≤71+8*t.size:=by
 have:=Z0t t.size;rw[Z78,List.length_append,by8_len,Z4i];omega
theorem Zdy {α:Type} (f:α→List Bool) (k:Nat):∀ (l:List α),(∀ x∈l,(f x).length≤k)→(l.flatMap f).length≤k*l.length:=by
 intro l
 induction l with
 | nil=>simp
 | cons x l ih =>
  intro h;have:=h x (by simp);have:=ih (fun y hy=>h y (by simp[hy]));rw[List.flatMap_cons,List.length_append,List.length_cons,Nat.mul_add];omega
theorem cutB_l0 (l:List Z6) (hl:l.length≤1000000) (hk:∀ s∈l,SOk s):∀ (suf:List Z6) (dn:List (List Z6)) (cu:List Z6) (i:Int),l=dn.flatten++cu++suf→i=((dn.flatten++cu).length:Int) →
  (∀ c∈dn,COk c∧c≠[]∧Z8d c)→COk cu→cu≠[]→Z8d cu →
  ∃ C,Z21.l0 l dn cu i=some C∧Zc.hl l dn cu i=some C∧C.flatten=l∧∀ c∈C,COk c∧c≠[]∧Z8d c:=by
 intro suf
 induction suf with
 | nil =>
  intro dn cu i h1 hi hC h2 h3 h4;refine⟨dn++[cu],?_,?_,by rw[h1];simp,fun c hc => ?_⟩
  ·rw[Z21.l0,if_neg (by rw[h1];simp[hi])]
  ·rw[Zc.hl,if_neg (by rw[h1];simp[hi])]
  ·rcases List.mem_append.1 hc with hc | hc
   ·exact hC c hc
   ·simp at hc;subst hc;exact⟨h2,h3,h4⟩
 | cons s suf ih =>
  intro dn cu i h1 hi hC h2 h3 h4;have hlen:l.length=(dn.flatten++cu).length+(suf.length+1):=by rw[h1,List.length_append];rfl
  have hdn:=flat_len (C:=dn) (fun c hc=>(hC c hc).2.1);have hn:(dn.flatten++cu).length=dn.flatten.length+cu.length:=List.length_append;have hi1:((dn.flatten++cu++[s]).length:Int)=i+1:=by rw[hi,List.length_append];simp
  have hs:=hk s (by rw[h1];simp);have h32:=h2.len;obtain⟨r,f1,f2,f3⟩:=fits_eq cu s (by omega) (fun x hx=>by
   have:x∈l:=by rw[h1];rcases List.mem_append.1 hx with hx | hx;simp[hx];simp at hx;subst hx;simp
   exact⟨(hk x this).v,(hk x this).f⟩) hs.t
  have hi2:i<2000000:=by omega
  rw[Z21.l0,if_pos (decide_eq_true (by omega)),Z06 h1 hi,sb,chkB (by omega),f1,sb,Z8 (n:=i+1) (by omega) (by omega)];cases r with
  | false =>
   rw[if_pos (show(!false)=true from rfl),Zc.hl,if_pos (decide_eq_true (by omega)),chkB (by omega),Z06 h1 hi,sb,f2,sb,Z8 (n:=i+1) (by omega) (by omega),if_neg (by simp)];exact ih (dn++[cu]) [s] (i+1) (by rw[h1];simp) (by rw[← hi1];simp) (fun c hc=>by
    rcases List.mem_append.1 hc with hc | hc
    ·exact hC c hc
    ·simp at hc;subst hc;exact⟨h2,h3,h4⟩) hs.cok (by simp) (Z8d.one s)
  | true =>
   rw[if_neg (show ¬ ((!true)=true) by simp),chkB (by omega),Zc.hl,if_pos (decide_eq_true (by omega)),chkB (by omega),Z06 h1 hi,sb,f2,sb,Z8 (n:=i+1) (by omega) (by omega),if_pos rfl,chkB (by omega)];exact ih dn (cu++[s]) (i+1) (by rw[h1];simp) (by rw[← hi1];simp) hC (f3 rfl h2) (by simp) (h4.snoc f1)
theorem cutB (l:List Z6) (hl:l.length≤1000000) (hk:∀ s∈l,SOk s):∃ C,Z21.f l=some C∧Zc.h l=some C∧C.flatten=l∧(∀ c∈C,Chu c)∧C.length≤l.length:=by
 suffices h:∃ C,Z21.f l=some C∧Zc.h l=some C∧C.flatten=l∧∀ c∈C,COk c∧c≠[]∧Z8d c by
  obtain⟨C,e1,e2,e3,e4⟩:=h;refine⟨C,e1,e2,e3,fun c hc => ?_,by have:=flat_len (C:=C) (fun c hc=>(e4 c hc).2.1);rw[e3] at this;exact this⟩;obtain⟨c1,c2,c3⟩:=e4 c hc;have hm:∀ s∈c,SOk s:=fun s hs=>hk s (by rw[← e3];exact List.mem_flatten.2 ⟨c,hc,hs⟩)
  have h32:=c1.len;refine⟨c1,c2,fun s hs=>(hm s hs).hok,?_⟩;rw[grow_chk c (by omega) c2 hm,if_pos c3]
 unfold Z21.f Zc.h;cases l with
 | nil=>exact⟨[],rfl,rfl,rfl,by simp⟩
 | cons s suf =>
  rw[if_pos (by simp),if_pos (by simp),show at? (s::suf) 0=some s from rfl,sb,sb,Z8 (by omega) (by omega)];exact cutB_l0 (s::suf) hl hk suf [] [s] (0+1) (by simp) (by simp) (by simp) (hk s (by simp)).cok (by simp) (Z8d.one s)
def cutX (l:List Z6):List (List Z6):=(Z21.f l).getD []
def smpsB (l:List Z6):List Bool:=cnt2 (cutX l).length++Zep (cutX l)
structure CutX (l:List Z6) (C:List (List Z6)):Prop where
 p:Z21.f l=some C
 d:Zc.h l=some C
 x:cutX l=C
 flat:C.flatten=l
 ok:∀ c∈C,Chu c
 len:C.length≤l.length
theorem cutX_ok (l:List Z6) (hl:l.length≤1000000) (hk:∀ s∈l,SOk s):∃ C,CutX l C:=by
 obtain⟨C,e1,e2,e3,e4,e5⟩:=cutB l hl hk;exact⟨C,e1,e2,by unfold cutX;rw[e1];rfl,e3,e4,e5⟩
theorem Chu.enc {c:List Z6} (h:Chu c):Zw.f c=some (encX c,0)∧(∃ f,Laid (encX c) f (Z6s c))∧(Z6d (encX c)).size=(encX c).length∧(encX c).length≤400000:=by
 obtain⟨e1,⟨f,e2⟩,e3⟩:=encX_eq h.cok h.ne h.k h.h0;exact⟨e1,⟨f,e2⟩,by rw[← Z4i,Z9f (Zbv e2)],e3⟩
theorem Chu.txt {c:List Z6} (h:Chu c):(Z78 (Z6d (encX c))).length≤3300000:=by
 obtain⟨_,_,e3,e4⟩:=h.enc;have:=Z77 (Z6d (encX c));omega
theorem chusB_len:∀ (C:List (List Z6)),(∀ c∈C,Chu c)→(Zep C).length≤3300000*C.length:=by
 intro C h;exact Zdy (fun c=>Z78 (Z6d (encX c))) 3300000 C (fun c hc=>(h c hc).txt)
theorem smpsB_len {l:List Z6} {C:List (List Z6)} (h:CutX l C):(smpsB l).length≤71+3300000*l.length:=by
 have h1:=chusB_len C h.ok;have h2:=Z0t C.length;have h3:=h.len;have:3300000*C.length≤3300000*l.length:=Nat.mul_le_mul_left _ h3;rw[smpsB,h.x,List.length_append];omega
structure RowB (r:Zp):Prop where
 k:r.f0.size≤2000000
 n:r.f1.length≤100000000
 f:∀ s∈r.f1,Fits s.f1∧s.f1.f6.length<1000000000000000∧s.f1.f7.length<1000000000000000
theorem rise_up:∀ (l:List Z6) (p:Option Z6),rise p l=true→l.Pairwise (fun a b=>a.f0<b.f0)∧∀ q,p=some q→∀ x∈l,q.f0<x.f0
 | [],p,_=>⟨List.Pairwise.nil,by simp⟩
 | s::l,p,h=>by
  simp only[rise,Bool.and_eq_true,good] at h;obtain⟨⟨h1,h2⟩,h3⟩:=h;obtain⟨g1,g2⟩:=rise_up l (some s) h3;refine⟨List.pairwise_cons.2 ⟨g2 s rfl,g1⟩,fun q hq x hx => ?_⟩;subst hq;have h4:q.f0<s.f0:=by simpa[aft] using h2
  rcases List.mem_cons.1 hx with rfl | hx
  ·exact h4
  ·have:=g2 s rfl x hx;omega
theorem rise_ok:∀ (l:List Z6) (p:Option Z6),rise p l=true→∀ s∈l,sok s=true
 | [],_,_,_,h=>by simp at h
 | s::l,p,h,x,hx=>by
  simp only[rise,Bool.and_eq_true,good] at h;rcases List.mem_cons.1 hx with rfl | hx
  ·exact h.1.1
  ·exact rise_ok l _ h.2 x hx
theorem ends_all {a z:Z6} {m:List Z6} {lo hi:Int} (h:rise none (a::m)=true) (hz:(a::m).getLast? = some z):((a::m).all fun s=>decide (lo≤s.f0∧s.f0<hi))=decide (lo≤a.f0∧z.f0<hi):=by
 obtain⟨h1,_⟩:=rise_up _ _ h;obtain⟨ha,hm⟩:=List.pairwise_cons.1 h1;have hz2:∀ x∈a::m,x.f0≤z.f0:=by
  obtain⟨pre,e⟩:=List.getLast?_eq_some_iff.1 hz;rw[e] at h1 ⊢;intro x hx;rcases List.mem_append.1 hx with hx | hx
  ·have:=(List.pairwise_append.1 h1).2.2 x hx z (by simp);omega
  ·rw[List.mem_singleton.1 hx];omega
 have hzm:z∈a::m:=List.mem_of_getLast? hz;rw[Bool.eq_iff_iff];simp only[List.all_eq_true,decide_eq_true_eq];constructor
 ·intro h;exact⟨(h a (by simp)).1,(h z hzm).2⟩
 ·rintro⟨g1,g2⟩ x hx
  have:=hz2 x hx;rcases List.mem_cons.1 hx with rfl | hx
  ·omega
  ·have:=ha x hx;omega
def behK (p:Option ByteArray) (k:ByteArray):Bool:=match p with
 | none=>true
 | some q=>bl q k
noncomputable def rowC (lo hi:Int) (p:Option ByteArray) (r:Zp):Int :=
 if(keyB r.f0&&behK p r.f0)=true then(if(!r.f1.isEmpty&&rise none r.f1&&r.f1.all fun s=>decide (lo≤s.f0∧s.f0<hi))=true then 0 else 22) else 26
noncomputable def Zcn (lo hi:Int):Option ByteArray→List Zp→Int
 | _,[]=>0
 | p,r::l=>if rowC lo hi p r=0 then Zcn lo hi (some r.f0) l else rowC lo hi p r
def out16 (e:Int):Int ⊕ Unit:=if e=0 then .inr () else .inl e
def Zb2 (pre:List Zp):Option ByteArray:=pre.getLast?.map (·.f0)
theorem Zbu (pre:List Zp) (r:Zp):Zb2 (pre++[r])=some r.f0:=by simp[Zb2]
theorem le_not_lt16 (a b:ByteArray):(Op.bytesLess a.toList b.toList||a.toList==b.toList) = !bl b a:=by
 rw[eqB];by_cases h:a=b
 ·subst h;simp[Z60]
 ·cases h1:bl a b with
  | true =>
   have h2:bl b a=false:=Zd4 h1;simp[bl] at h1;simp[h1,h2]
  | false =>
   have h2:bl b a=true:=by
    cases h3:bl b a with
    | true=>rfl
    | false=>exact absurd (bl_tri' h1 h3) h
   simp[bl] at h1;simp[h1,h2,h]
theorem keyStep {l pre suf:List Zp} {r:Zp} {i:Int} (h1:l=pre++r::suf) (hi:i=(pre.length:Int)) (hl:l.length<1000000000) :
  ((if(decide (i>(0:Int)))=true then((at? l (i64.wrap (i-(1:Int))))>>=fun b2389=>some (!Op.bytesLess b2389.f0.toList r.f0.toList)) else(some false)):Option Bool)=some (!behK (Zb2 pre) r.f0):=by
 rcases List.eq_nil_or_concat pre with rfl | ⟨Q,q,rfl⟩
 ·rw[if_neg (by simp[hi])];rfl
 ·rw[List.concat_eq_append] at *
  have hi3:i=(Q.length:Int)+1:=by rw[hi];simp
  have hlen:l.length=Q.length+1+(suf.length+1):=by rw[h1];simp;omega
  rw[if_pos (decide_eq_true (by omega)),Z8 (n:=i-1) (by omega) (by omega),Zbu];rw[show at? l (i-1)=some q from Z06 (pre:=Q) (suf:=r::suf) (by rw[h1];simp) (by omega),sb];rfl
theorem keyStep' {l pre suf:List Zp} {r:Zp} {i:Int} (h1:l=pre++r::suf) (hi:i=(pre.length:Int)) (hl:l.length<1000000000) :
  ((if(decide (i>(0:Int)))=true then((at? l (i64.wrap (i-(1:Int))))>>=fun b2956=>some (Op.bytesLess r.f0.toList b2956.f0.toList||r.f0.toList==b2956.f0.toList)) else(some false)):Option Bool)=some (!behK (Zb2 pre) r.f0):=by
 rw[← keyStep h1 hi hl];congr 1;congr 1;funext x;rw[le_not_lt16]
theorem from16 {s:ByteArray} (hs:s.size≤2000000):∃ x e,Z0h.f s=some (x,e)∧keyB s=(e==0)∧(e=0→chkC x=0∧L s=keyL x):=by
 obtain⟨x,e,h,h2⟩:=Zf0 s hs;refine⟨x,e,h,by unfold keyB;rw[h],fun he => ?_⟩;rcases h2 with ⟨_,h3,h4⟩ | ⟨rfl,_,_⟩
 ·exact⟨h3,h4⟩
 ·simp at he
theorem chk16_l0 (b:Z2) (hl:b.f1.length<1000000000) (hb:∀ r∈b.f1,RowB r):∀ (suf pre:List Zp) (i:Int),b.f1=pre++suf→i=(pre.length:Int)→Z23.l0 b i=some (out16 (Zcn b.f0.f0 b.f0.f1 (Zb2 pre) suf)):=by
 intro suf
 induction suf with
 | nil=>intro pre i h1 hi;rw[Z23.l0,if_neg (by rw[h1];simp[hi])];rfl
 | cons r suf ih =>
  intro pre i h1 hi;have hlen:b.f1.length=pre.length+(suf.length+1):=by rw[h1];simp
  have hr:=hb r (by rw[h1];simp);obtain⟨x,e,f1,f2,f3⟩:=from16 hr.k;rw[Z23.l0,if_pos (by simp;omega),Z06 h1 hi,sb,f1,sb,keyStep h1 hi hl];have hk:((if((x,e).2 != (0:Int))=true then(some true) else some (!behK (Zb2 pre) r.f0)):Option Bool)=some (!(keyB r.f0&&behK (Zb2 pre) r.f0)):=by
   rw[f2];by_cases he:e=0
   ·simp[he]
   ·simp[he]
  rw[hk,sb,Zcn];unfold rowC;cases hk2:(keyB r.f0&&behK (Zb2 pre) r.f0) with
  | false=>rw[if_pos (by rfl),if_neg (by simp),if_neg (by decide)];rfl
  | true =>
   rw[if_neg (by simp),if_pos rfl];have hs:(((if((r.f1.length:Int)==(0:Int))=true then(some true) else((Z1g.f r.f1)>>=fun t2406=>if(!t2406)=true then(some true) else((at? r.f1 0)>>=fun b2409=>if(decide (b2409.f0<b.f0.f0))=true then(some true) else((at? r.f1 (i64.wrap ((r.f1.length:Int)-(1:Int))))>>=fun b2413=>some (decide (b2413.f0≥b.f0.f1)))))):Option (Bool))=some (!(!r.f1.isEmpty&&rise none r.f1&&r.f1.all fun s=>decide (b.f0.f0≤s.f0∧s.f0<b.f0.f1)))):=by
    rw[ris_eq r.f1 (by have:=hr.n;omega) (fun s hs=>(hr.f s hs).1)]
    match hm:r.f1,hr.n with
    | [],_=>rfl
    | a::m,hn =>
     rw[if_neg (by simp;omega),sb];cases hri:rise none (a::m) with
     | false=>rfl
     | true =>
      obtain⟨z,hz⟩:∃ z,(a::m).getLast? = some z:=⟨_,List.getLast?_eq_some_getLast (by simp)⟩
      rw[if_neg (by simp),show at? (a::m) 0=some a from rfl,sb,Z8 (by simp only[List.length_cons] at *;omega) (by simp only[List.length_cons] at *;omega)];have hzl:at? (a::m) (((a::m).length:Int)-1)=some z:=by
       rw[List.getLast?_eq_getElem?] at hz;exact Z4j (k:=(a::m).length-1) (by simp) hz
      rw[hzl,sb,ends_all hri hz];by_cases c1:a.f0<b.f0.f0
      ·rw[if_pos (decide_eq_true c1),decide_eq_false (by omega)];rfl
      ·rw[if_neg (by simpa using c1)]
       by_cases c2:z.f0≥b.f0.f1
       ·rw[decide_eq_true c2,decide_eq_false (by omega)];rfl
       ·rw[decide_eq_false c2,decide_eq_true (by omega)];rfl
   rw[hs,sb];cases hs2:(!r.f1.isEmpty&&rise none r.f1&&r.f1.all fun s=>decide (b.f0.f0≤s.f0∧s.f0<b.f0.f1)) with
   | false=>rw[if_pos (by rfl),if_neg (by simp),if_neg (by decide)];rfl
   | true=>rw[if_neg (by simp),if_pos rfl,if_pos rfl,Z8 (by omega) (by omega),ih (pre++[r]) (i+1) (by simp[h1]) (by simp;omega),Zbu]
noncomputable def blkC (b:Z2):Int:=if Z6u b.f0 then(if b.f1.length=0∨64<b.f1.length then 9 else Zcn b.f0.f0 b.f0.f1 none b.f1) else 4
theorem check16 (b:Z2) (hl:b.f1.length<1000000000) (hb:∀ r∈b.f1,RowB r):Z23.f b=some (blkC b):=by
 unfold Z23.f blkC;rw[right16,sb];by_cases h:Z6u b.f0
 ·rw[decide_eq_true h,if_neg (by simp),if_pos h]
  have h2:((if((b.f1.length:Int)==(0:Int))=true then(some true) else(some (decide ((b.f1.length:Int)>(64:Int))))):Option (Bool))=some (decide (b.f1.length=0∨64<b.f1.length)):=by
   by_cases c:b.f1.length=0
   ·rw[if_pos (by simp[c]),decide_eq_true (.inl c)]
   ·rw[if_neg (by simp;intro h;simp[h] at c)]
    congr 1;by_cases c2:64<b.f1.length
    ·rw[decide_eq_true (by omega),decide_eq_true (.inr c2)]
    ·rw[decide_eq_false (by omega),decide_eq_false (by omega)]
  rw[h2,sb];by_cases c:b.f1.length=0∨64<b.f1.length
  ·rw[if_pos (decide_eq_true c),if_pos c]
  ·rw[if_neg (by simpa using c),if_neg c,chk16_l0 b hl hb b.f1 [] 0 rfl rfl,sb,show Zb2   []=none from rfl]
   unfold out16;by_cases e:Zcn b.f0.f0 b.f0.f1 none b.f1=0
   ·rw[if_pos e,e]
   ·rw[if_neg e]
 ·rw[decide_eq_false h,if_pos (show(!false)=true from rfl),if_neg h]
theorem rwidth_l0 (k:Int):∀ (n:Nat) (x i:Int),i+n=4→0≤i→0≤x→x≤64*4 ^ i.toNat→Z20.l0 k x i=some (x*4 ^ (min k 4-i).toNat):=by
 intro n
 induction n with
 | zero =>
  intro x i h1 h0 hx hx2;obtain rfl:i=4:=by omega
  rw[Z20.l0];have:((if(decide ((4:Int)<k))=true then(some (decide ((4:Int)<(4:Int)))) else(some false)):Option Bool)=some false:=by split<;>rfl
  rw[this,sb,if_neg (by simp),show(min k 4-4).toNat=0 by omega];simp
 | succ n ih =>
  intro x i h1 h0 hx hx2;have hp:(4:Int) ^ i.toNat≤64:=by
   have:i.toNat≤3:=by omega
   obtain h | h | h | h:i.toNat=0∨i.toNat=1∨i.toNat=2∨i.toNat=3:=by omega
   all_goals rw[h];decide
  rw[Z20.l0];by_cases c:i<k
  ·rw[if_pos (decide_eq_true c),sb,if_pos (by simp;omega),Z8     (by omega) (by omega),Z8     (by omega) (by omega)]
   rw[ih (x*4) (i+1) (by omega) (by omega) (by omega) (by rw[show(i+1).toNat=i.toNat+1 by omega,Int.pow_succ];omega),show(min k 4-i).toNat=(min k 4-(i+1)).toNat+1 by omega,Int.pow_succ,Int.mul_assoc,Int.mul_comm 4]
  ·rw[if_neg (by simpa using c),sb,if_neg (by simp),show(min k 4-i).toNat=0 by omega];simp
theorem rwidth (k:Int):Z20.f k=some (64*4 ^ (min k 4).toNat):=by
 unfold Z20.f;rw[rwidth_l0 k 4 64 0 (by omega) (by omega) (by omega) (by decide),sb,Int.sub_zero]
theorem rwidth_wide {k:Int} (h:0≤k) (h4:k≤4):Z20.f k=some (wide k):=by
 rw[rwidth];obtain rfl | rfl | rfl | rfl | rfl:k=0∨k=1∨k=2∨k=3∨k=4:=by omega
 all_goals decide
def Zek (b:Z0g):Z2:=⟨⟨b.f0,b.f1,b.f2⟩,b.f3⟩
theorem rright16 (b:Z0g):((if(decide (b.f2<(0:Int)))=true then(some true) else(if(decide (b.f2>(4:Int)))=true then(some true) else(if(decide (b.f0<(0:Int)))=true then(some true) else(if(decide (b.f0>(1099511627776:Int)))=true then(some true) else((Z20.f b.f2)>>=fun t2461=>(chk (t2461≠0))>>=fun _=>if((Int.tmod b.f0 t2461) != (0:Int))=true then(some true) else((Z20.f b.f2)>>=fun t2465=>some (b.f1 != (i64.wrap (b.f0+t2465))))))))):Option (Bool))=some (!decide (Z6u ⟨b.f0,b.f1,b.f2⟩)):=by
 obtain⟨lo,hi,k,rows⟩:=b;dsimp only;by_cases h1:k<0
 ·rw[if_pos (decide_eq_true h1),decide_eq_false (fun h=>by have:=h.1;dsimp only at this;omega)];rfl
 rw[if_neg (by simpa using h1)];by_cases h2:k>4
 ·rw[if_pos (decide_eq_true h2),decide_eq_false (fun h=>by have:=h.2.1;dsimp only at this;omega)];rfl
 rw[if_neg (by simpa using h2)];by_cases h3:lo<0
 ·rw[if_pos (decide_eq_true h3),decide_eq_false (fun h=>by have:=h.2.2.1;dsimp only at this;omega)];rfl
 rw[if_neg (by simpa using h3)];by_cases h4:lo>1099511627776
 ·rw[if_pos (decide_eq_true h4),decide_eq_false (fun h=>by have:=h.2.2.2.1;dsimp only at this;omega)];rfl
 have hw:=wide_pos k;rw[if_neg (by simpa using h4),rwidth_wide (by omega) (by omega),sb,chkB (by omega),Int.tmod_eq_emod_of_nonneg (by omega)];by_cases h5:lo % wide k=0
 ·rw[if_neg (by simp[h5]),sb,Z8     (by omega) (by omega)]
  congr 1;by_cases h6:hi=lo+wide k
  ·rw[show decide (Z6u ⟨lo,hi,k⟩)=true from decide_eq_true ⟨by dsimp only;omega,by dsimp only;omega,by dsimp only;omega,by dsimp only;omega,h5,h6⟩];simp[h6]
  ·rw[decide_eq_false (fun h:Z6u ⟨lo,hi,k⟩=>h6 h.2.2.2.2.2)];simp[h6]
 ·rw[if_pos (by simpa using h5),decide_eq_false (fun h:Z6u ⟨lo,hi,k⟩=>h5 h.2.2.2.2.1)];rfl
theorem rchk16_l1 (b:Z0g) (r:Zp) (j:Int) (hl:r.f1.length<1000000000):∀ (suf pre:List Z6) (i:Int),r.f1=pre++suf→i=(pre.length:Int) →
  Z1q.l1 b r j i=some (if(suf.all fun s=>decide (b.f0≤s.f0∧s.f0<b.f1))=true then .inr () else .inl 22):=by
 intro suf
 induction suf with
 | nil=>intro pre i h1 hi;rw[Z1q.l1,if_neg (by rw[h1];simp[hi])];rfl
 | cons s suf ih =>
  intro pre i h1 hi;have hlen:r.f1.length=pre.length+(suf.length+1):=by rw[h1];simp
  rw[Z1q.l1,if_pos (by simp;omega),Z06 h1 hi,sb];have:((if(decide (s.f0<b.f0))=true then(some true) else(some (decide (s.f0≥b.f1)))):Option Bool)=some (!decide (b.f0≤s.f0∧s.f0<b.f1)):=by
   by_cases c1:s.f0<b.f0
   ·rw[if_pos (decide_eq_true c1),decide_eq_false (by omega)];rfl
   ·rw[if_neg (by simpa using c1)]
    by_cases c2:s.f0≥b.f1
    ·rw[decide_eq_true c2,decide_eq_false (by omega)];rfl
    ·rw[decide_eq_false c2,decide_eq_true (by omega)];rfl
  rw[this,sb,List.all_cons];cases h:decide (b.f0≤s.f0∧s.f0<b.f1) with
  | false=>rw[if_pos (show(!false)=true from rfl)];rfl
  | true=>rw[if_neg (by simp),Z8 (by omega) (by omega),ih (pre++[s]) (i+1) (by simp[h1]) (by simp;omega),Bool.true_and]
theorem rchk16_l0 (b:Z0g) (hl:b.f3.length<1000000000) (hb:∀ r∈b.f3,RowB r):∀ (suf pre:List Zp) (i:Int),b.f3=pre++suf→i=(pre.length:Int)→Z1q.l0 b i=some (out16 (Zcn b.f0 b.f1 (Zb2 pre) suf)):=by
 intro suf
 induction suf with
 | nil=>intro pre i h1 hi;rw[Z1q.l0,if_neg (by rw[h1];simp[hi])];rfl
 | cons r suf ih =>
  intro pre i h1 hi;have hlen:b.f3.length=pre.length+(suf.length+1):=by rw[h1];simp
  have hr:=hb r (by rw[h1];simp);rw[Z1q.l0,if_pos (by simp;omega),Z06 h1 hi,sb,rkey15 r.f0 hr.k,sb,keyStep' h1 hi hl];have hk:((if(!keyB r.f0)=true then(some true) else some (!behK (Zb2 pre) r.f0)):Option Bool)=some (!(keyB r.f0&&behK (Zb2 pre) r.f0)):=by
   cases keyB r.f0<;>rfl
  rw[hk,sb,Zcn];unfold rowC;cases hk2:(keyB r.f0&&behK (Zb2 pre) r.f0) with
  | false=>rw[if_pos (by rfl),if_neg (by simp),if_neg (by decide)];rfl
  | true =>
   rw[if_neg (by simp),if_pos rfl,rris_eq r.f1 (by have:=hr.n;omega) hr.f];have hs:((if((r.f1.length:Int)==(0:Int))=true then(some true) else((some (rise none r.f1))>>=fun t2965=>some (!t2965))):Option Bool)=some (!(!r.f1.isEmpty&&rise none r.f1)):=by
    match r.f1 with
    | []=>rfl
    | a::m=>rw[if_neg (by simp;omega),sb];rfl
   rw[hs,sb];cases hs2:(!r.f1.isEmpty&&rise none r.f1) with
   | false=>rw[if_pos (by rfl),Bool.false_and,if_neg (by simp),if_neg (by decide)];rfl
   | true =>
    rw[if_neg (by simp),rchk16_l1 b r i (by have:=hr.n;omega) r.f1 [] 0 rfl rfl,sb,Bool.true_and];cases hs3:(r.f1.all fun s=>decide (b.f0≤s.f0∧s.f0<b.f1)) with
    | false=>rw[if_neg (by simp),if_neg (by simp),if_neg (by decide)];rfl
    | true=>rw[if_pos rfl,if_pos rfl,if_pos rfl];dsimp only;rw[Z8 (by omega) (by omega),ih (pre++[r]) (i+1) (by simp[h1]) (by simp;omega),Zbu]
theorem rcheck16 (b:Z0g) (hl:b.f3.length<1000000000) (hb:∀ r∈b.f3,RowB r):Z1q.f b=some (blkC (Zek b)):=by
 unfold Z1q.f blkC;rw[rright16,sb];show _=some (if Z6u ⟨b.f0,b.f1,b.f2⟩ then(if b.f3.length=0∨64<b.f3.length then 9 else Zcn b.f0 b.f1 none b.f3) else 4);by_cases h:Z6u ⟨b.f0,b.f1,b.f2⟩
 ·rw[decide_eq_true h,if_neg (by simp),if_pos h]
  have h2:((if(decide ((b.f3.length:Int)<(1:Int)))=true then(some true) else(some (decide ((b.f3.length:Int)>(64:Int))))):Option (Bool))=some (decide (b.f3.length=0∨64<b.f3.length)):=by
   by_cases c:b.f3.length=0
   ·rw[if_pos (by simp[c]),decide_eq_true (.inl c)]
   ·rw[if_neg (by simp;omega)]
    congr 1;by_cases c2:64<b.f3.length
    ·rw[decide_eq_true (by omega),decide_eq_true (.inr c2)]
    ·rw[decide_eq_false (by omega),decide_eq_false (by omega)]
  rw[h2,sb];by_cases c:b.f3.length=0∨64<b.f3.length
  ·rw[if_pos (decide_eq_true c),if_pos c]
  ·rw[if_neg (by simpa using c),if_neg c,rchk16_l0 b hl hb b.f3 [] 0 rfl rfl,sb,show Zb2   []=none from rfl]
   unfold out16;by_cases e:Zcn b.f0 b.f1 none b.f3=0
   ·rw[if_pos e,e]
   ·rw[if_neg e]
 ·rw[decide_eq_false h,if_pos (show(!false)=true from rfl),if_neg h]
structure RowOK (lo hi:Int) (r:Zp):Prop where
 k:keyB r.f0=true
 ne:r.f1≠[]
 up:rise none r.f1=true
 at_:∀ s∈r.f1,lo≤s.f0∧s.f0<hi
structure BlkOK (b:Z2):Prop where
 m:Z6u b.f0
 ne:b.f1≠[]
 len:b.f1.length≤64
 rows:∀ r∈b.f1,RowOK b.f0.f0 b.f0.f1 r
 up:b.f1.Pairwise fun r q=>bl r.f0 q.f0=true
theorem rowsC_ok (lo hi:Int):∀ (l:List Zp) (p:Option ByteArray),Zcn lo hi p l=0↔((∀ r∈l,RowOK lo hi r)∧l.Pairwise (fun r q=>bl r.f0 q.f0=true)∧∀ k,p=some k→∀ r∈l,bl k r.f0=true)
 | [],p=>by simp[Zcn]
 | r::l,p=>by
  have key:rowC lo hi p r=0↔(RowOK lo hi r∧∀ k,p=some k→bl k r.f0=true):=by
   unfold rowC;cases h1:keyB r.f0 with
   | false=>simp;intro h;have:=h.k;rw[h1] at this;simp at this
   | true =>
    have hp:behK p r.f0=true↔∀ k,p=some k→bl k r.f0=true:=by
     cases p with
     | none=>simp[behK]
     | some q=>simp[behK]
    rw[Bool.true_and];by_cases h2:behK p r.f0=true
    ·rw[if_pos h2]
     by_cases h3:(!r.f1.isEmpty&&rise none r.f1&&r.f1.all fun s=>decide (lo≤s.f0∧s.f0<hi))=true
     ·rw[if_pos h3]
      simp only[Bool.and_eq_true,Bool.not_eq_true',List.isEmpty_eq_false_iff,List.all_eq_true,decide_eq_true_eq] at h3;exact⟨fun _=>⟨⟨h1,h3.1.1,h3.1.2,h3.2⟩,hp.1 h2⟩,fun _=>rfl⟩
     ·rw[if_neg h3]
      refine⟨fun h=>by simp at h,fun h=>absurd ?_ h3⟩;simp only[Bool.and_eq_true,Bool.not_eq_true',List.isEmpty_eq_false_iff,List.all_eq_true,decide_eq_true_eq];exact⟨⟨h.1.ne,h.1.up⟩,h.1.at_⟩
    ·rw[if_neg h2]
     exact⟨fun h=>by simp at h,fun h=>absurd (hp.2 h.2) h2⟩
  rw[Zcn];by_cases h:rowC lo hi p r=0
  ·rw[if_pos h,rowsC_ok lo hi l (some r.f0)]
   obtain⟨k1,k2⟩:=key.1 h;constructor
   ·rintro⟨g1,g2,g3⟩
    refine⟨fun x hx => ?_,List.pairwise_cons.2 ⟨fun x hx=>g3 _ rfl x hx,g2⟩,fun k hk x hx => ?_⟩
    ·rcases List.mem_cons.1 hx with rfl | hx
     ·exact k1
     ·exact g1 x hx
    ·rcases List.mem_cons.1 hx with rfl | hx
     ·exact k2 k hk
     ·exact Z9w _ _ _ (k2 k hk) (g3 _ rfl x hx)
   ·rintro⟨g1,g2,g3⟩
    obtain⟨p1,p2⟩:=List.pairwise_cons.1 g2;exact⟨fun x hx=>g1 x (by simp[hx]),p2,fun k hk x hx=>by cases hk;exact p1 x hx⟩
  ·rw[if_neg h]
   refine⟨fun g=>absurd g h,fun⟨g1,g2,g3⟩=>absurd (key.2 ⟨g1 r (by simp),fun k hk=>g3 k hk r (by simp)⟩) h⟩
theorem blkC_ok (b:Z2):blkC b=0↔BlkOK b:=by
 unfold blkC;by_cases h:Z6u b.f0
 ·rw[if_pos h]
  by_cases c:b.f1.length=0∨64<b.f1.length
  ·rw[if_pos c]
   refine⟨fun h=>by simp at h,fun k => ?_⟩;have h1:=k.ne;have h2:=k.len;have:b.f1.length≠0:=fun h=>h1 (List.length_eq_zero_iff.1 h);omega
  ·rw[if_neg c,rowsC_ok]
   constructor
   ·rintro⟨g1,g2,_⟩
    exact⟨h,fun e=>by rw[e] at c;simp at c,by omega,g1,g2⟩
   ·intro k;exact⟨k.rows,k.up,by simp⟩
 ·rw[if_neg h];exact⟨fun h=>by simp at h,fun k=>absurd k.m h⟩
theorem ssort (l:List ByteArray) (hl:l.length<1000000000):∃ r,Z2n.f l=some r∧r.Perm l∧r.Pairwise (fun a b=>bl b a=false):=by
 refine⟨Za9 l,?_,sortB_perm l,sortB_up l⟩;unfold Z2n.f;rw[chkB (by omega)]
def ddS (acc:List ByteArray) (y:ByteArray):List ByteArray:=if acc.getLast? = some y then acc else acc++[y]
def dd (l:List ByteArray):List ByteArray:=l.foldl ddS []
theorem Ze2 (l:List ByteArray) (y:ByteArray):dd (l++[y])=ddS (dd l) y:=by simp[dd,List.foldl_append]
theorem dd_last (l:List ByteArray):(dd l).getLast? = l.getLast? := by
 refine Z6x (P:=fun l=>(dd l).getLast? = l.getLast?) rfl (fun l x _ => ?_) l;rw[Ze2];unfold ddS;split
 ·rename_i h;rw[h];simp
 ·simp
theorem dd_mem (l:List ByteArray):∀ x,x∈dd l↔x∈l:=by
 refine Z6x (P:=fun l=>∀ x,x∈dd l↔x∈l) (fun x=>by simp[dd]) (fun l y ih x => ?_) l;rw[Ze2];unfold ddS;split
 ·rename_i h
  rw[List.mem_append,← ih];refine⟨.inl,fun h' => ?_⟩;rcases h' with h' | h'
  ·exact h'
  ·simp at h';subst h';exact List.mem_of_getLast? h
 ·rw[List.mem_append,List.mem_append,ih]
theorem dd_len (l:List ByteArray):(dd l).length≤l.length:=by
 refine Z6x (P:=fun l=>(dd l).length≤l.length) (Nat.le_refl _) (fun l y ih => ?_) l;rw[Ze2];unfold ddS;split
 ·simp;omega
 ·simp;omega
theorem Zaq {α:Type} (l:List α) (m:Nat) (h:m<l.length):l.take (m+1)=l.take m++[l[m]]:=by rw[List.take_succ_eq_append_getElem h]
theorem last_take {α:Type} (l:List α) (m:Nat) (h:m<l.length):(l.take (m+1)).getLast? = some l[m]:=by rw[Zaq l m h,List.getLast?_concat]
theorem dd_step (l:List ByteArray) (m:Nat) (h:m+1<l.length):dd (l.take (m+2))=if l[m+1]=l[m] then dd (l.take (m+1)) else dd (l.take (m+1))++[l[m+1]]:=by
 rw[Zaq l (m+1) h,Ze2];unfold ddS;rw[dd_last,last_take l m (by omega)];by_cases e:l[m+1]=l[m]
 ·rw[if_pos (by rw[e]),if_pos e]
 ·rw[if_neg (fun q=>e (Option.some.inj q).symm),if_neg e]
theorem compact_l1 (a:List ByteArray) (k:Nat) (hk:1≤k) (ha:a.length<1000000000) (hkl:k<a.length):∀ (n k2:Nat) (x:List ByteArray) (w:Nat),k2+n=a.length-k→1≤k2→x.length=a.length→w≤k+k2-1→x.take w=dd (a.take (k+k2))→(dd (a.take (k+k2))).length=w→x.drop (k+k2-1)=a.drop (k+k2-1) →
  ∃ x',Zr.l1 a (k:Int) x (w:Int) (k2:Int)=some (x',((dd a).length:Int))∧x'.length=a.length∧x'.take (dd a).length=dd a:=by
 intro n
 induction n with
 | zero =>
  intro k2 x w h1 h2 hx hw ht hlw hd;have e:a.take (k+k2)=a:=List.take_of_length_le (by omega);rw[e] at ht hlw;rw[Zr.l1,if_neg (by simp;omega)];exact⟨x,by rw[hlw],hx,by rw[hlw,ht]⟩
 | succ n ih =>
  intro k2 x w h1 h2 hx hw ht hlw hd;obtain⟨m,hm⟩:∃ m,k+k2=m+1:=⟨k+k2-1,by omega⟩
  have hm1:m+1<a.length:=by omega
  rw[hm] at ht hlw;have hdg:∀ i,m≤i→x[i]? = a[i]? := fun i hi=>by
   have:=congrArg (fun l=>l[i-m]?) hd;simp only[List.getElem?_drop,hm,show m+1-1+(i-m)=i from by omega] at this;exact this
  have g1:x[m+1]? = some a[m+1]:=by rw[hdg _ (by omega)];exact List.getElem?_eq_getElem hm1
  have g2:x[m]? = some a[m]:=by rw[hdg _ (Nat.le_refl _)];exact List.getElem?_eq_getElem (by omega)
  have st:=dd_step a m hm1;rw[Zr.l1];simp only[Int.toNat_natCast];rw[if_pos (by simp;omega),chkB ⟨by omega,by omega⟩,Z4j (l:=x) (k:=m+1) (by rw[hm]) g1,sb,Z8 (n:=(k2:Int)-1) (by omega) (by omega),show((k2:Int)-1)=((k2-1:Nat):Int) from by omega,chkB ⟨by omega,by omega⟩];simp only[Int.toNat_natCast];rw[Z4j (l:=x) (k:=m) (by rw[show k+(k2-1)=m from by omega]) g2,sb,eqB,Z8 (n:=(k2:Int)+1) (by omega) (by omega),show((k2:Int)+1)=((k2+1:Nat):Int) from by omega];have hdrop:(x.drop (k+(k2+1)-1))=a.drop (k+(k2+1)-1):=by
   rw[show k+(k2+1)-1=m+1 from by omega];apply List.ext_getElem?;intro i;rw[List.getElem?_drop,List.getElem?_drop];exact hdg _ (by omega)
  by_cases e:a[m+1]=a[m]
  ·rw[if_neg (by simp[e]),sb]
   dsimp only;rw[if_pos e] at st;exact ih (k2+1) x w (by omega) (by omega) hx (by omega) (by rw[ht,show k+(k2+1)=m+2 from by omega,st]) (by rw[show k+(k2+1)=m+2 from by omega,st];exact hlw) hdrop
  ·rw[if_neg e] at st
   have hwx:w<x.length:=by omega
   rw[if_pos (by simp[e]),Z4j (l:=x) (k:=w) rfl (List.getElem?_eq_getElem hwx),sb,sb,Z8 (n:=(w:Int)+1) (by omega) (by omega),show((w:Int)+1)=((w+1:Nat):Int) from by omega];dsimp only;refine ih (k2+1) (x.set w a[m+1]) (w+1) (by omega) (by omega) (by simp[hx]) (by omega) ?_ ?_ ?_
   ·rw[show k+(k2+1)=m+2 from by omega,st,← ht]
    rw[List.take_set,Zaq x w hwx,List.set_append,if_neg (by simp;omega)];simp[Nat.min_eq_left (Nat.le_of_lt hwx)]
   ·rw[show k+(k2+1)=m+2 from by omega,st,List.length_append,hlw];rfl
   ·rw[List.drop_set_of_lt (by omega)];exact hdrop
theorem compact_l0 (a:List ByteArray) (ha:a.length<1000000000) (h2:2≤a.length):∀ (n k:Nat),k+n=a.length→1≤k→dd (a.take k)=a.take k →
  Zr.l0 a (k:Int)=some (.inl (dd a))∨(Zr.l0 a (k:Int)=some (.inr ())∧dd a=a):=by
 intro n
 induction n with
 | zero =>
  intro k h1 hk hd;rw[Zr.l0,if_neg (by simp;omega)];rw[List.take_of_length_le (by omega)] at hd;exact .inr ⟨rfl,hd⟩
 | succ n ih =>
  intro k h1 hk hd;obtain⟨m,rfl⟩:∃ m,k=m+1:=⟨k-1,by omega⟩
  have hm1:m+1<a.length:=by omega
  have st:=dd_step a m hm1;rw[Zr.l0,if_pos (by simp;omega),Z4j (k:=m+1) rfl (List.getElem?_eq_getElem hm1),sb,Z8 (n:=((m+1:Nat):Int)-1) (by omega) (by omega),Z4j (k:=m) (by omega) (List.getElem?_eq_getElem (by omega)),sb,eqB];by_cases e:a[m+1]=a[m]
  ·rw[if_pos (by simp[e]),chkB ⟨by omega,by omega⟩]
   rw[if_pos e] at st;have hlt:(a.take (m+1)).length=m+1:=by simp;omega
   obtain⟨x',e1,e2,e3⟩:=compact_l1 a (m+1) (by omega) ha hm1 (a.length-(m+1)-1) 1 a (m+1) (by omega) (by omega) rfl (by omega) (by rw[st,hd]) (by rw[st,hd];exact hlt) rfl;have hdl:=dd_len a;rw[show(1:Int)=((1:Nat):Int) from rfl,e1,sb];dsimp only;simp only[Int.toNat_natCast];rw[chkB ⟨by omega,by omega⟩,chkB ⟨by omega,by simp;omega⟩];refine .inl ?_;congr 2;rw[List.take_append_of_le_length (by simp;omega),List.take_take,Nat.min_self,e3]
  ·rw[if_neg (by simp[e]),Z8     (by omega) (by omega)]
   rw[if_neg e,hd] at st;exact ih (m+2) (by omega) (by omega) (by rw[st,Zaq a (m+1) hm1])
theorem compact_eq (a:List ByteArray) (ha:a.length<1000000000):Zr.f a=some (dd a):=by
 unfold Zr.f;by_cases h2:a.length<2
 ·rw[if_pos (by simp;omega)]
  match a,h2 with
  | [],_=>rfl
  | [x],_=>rfl
 ·rw[if_neg (by simp;omega)]
  have h1:dd (a.take 1)=a.take 1:=by
   match a,h2 with
   | x::_,_=>rfl
  rcases compact_l0 a ha (by omega) (a.length-1) 1 (by omega) (Nat.le_refl _) h1 with e | ⟨e,e2⟩
  ·rw[show(1:Int)=((1:Nat):Int) from rfl,e,sb]
  ·rw[show(1:Int)=((1:Nat):Int) from rfl,e,sb,e2]
end Go.Proofs.YtpoihfcehejgfaaGreat.PvGS2
