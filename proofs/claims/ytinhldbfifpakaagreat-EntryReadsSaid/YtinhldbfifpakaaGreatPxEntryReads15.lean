import Derived.Test.YtinhldbfifpakaaGreatPxEntryReads14
set_option linter.unusedVariables false
set_option linter.unusedSimpArgs false
set_option maxRecDepth 10000
namespace Go.Proofs.YtinhldbfifpakaaGreat.PvGL2
open Go Go.Pv Go.Pv.GS Go.IntKind
variable {b:List Int}
theorem Zdm {l:List Int} {i:Nat} {v:Int} (hl:∀ x∈l,U64 x) (hv:U64 v):∀ x∈l.set i v,U64 x:=fun x hx=>by
 rcases List.mem_or_eq_of_mem_set hx with h | rfl
 ·exact hl x h
 ·exact hv
theorem s1_tot (hb:Src b) (H:Zg) (L M:Zd) (t:Int×Int×Int) (P N:List Int) (hP:P.length≤1000000) (hN:N.length≤1000000) (la:Int) (o:List Z7) (i tm:Int) :
  ∀ (m:Nat) (was step:List Int) (a:Nat) (e:Int) (k:Nat),(2+P.length+N.length)-k≤m→was.length=2+P.length+N.length→step.length=2+P.length+N.length→(∀ x∈was,U64 x)→a≤8*b.length →
  ∃ (a':Nat) (e':Int) (w s:List Int),Z06.l1 b H L M t P N la o i tm (a:Int) e was step (k:Int)=some ((a':Int),e',w,s)∧a'≤8*b.length∧w.length=2+P.length+N.length∧s.length=2+P.length+N.length∧∀ x∈w,U64 x:=by
 intro m
 induction m with
 | zero =>
  intro was step a e k hm hw hs hu ha
  rw[Z06.l1,wide_eq hP hN,if_neg (by simp;omega)]
  exact⟨a,e,was,step,rfl,ha,hw,hs,hu⟩
 | succ m ih =>
  intro was step a e k hm hw hs hu ha
  by_cases hk:k<2+P.length+N.length
  case neg =>
   rw[Z06.l1,wide_eq hP hN,if_neg (by simp;omega)]
   exact⟨a,e,was,step,rfl,ha,hw,hs,hu⟩
  have aw:at? was (k:Int)=some (was[k]'(by omega)):=Z5y rfl (List.getElem?_eq_getElem _)
  have aS:at? step (k:Int)=some (step[k]'(by omega)):=Z5y rfl (List.getElem?_eq_getElem _)
  have aS2:∀ v,at? (step.set (Int.toNat (k:Int)) v) (k:Int)=some v:=fun v=>Z5y rfl (by rw[Int.toNat_natCast,List.getElem?_set_self (by omega)])
  rw[Z06.l1,wide_eq hP hN,if_pos (by simp;omega),Za (n:=(k:Int)+1) (by omega) (by omega)]
  have nx:∀ (a1:Nat) (e1:Int) (w s:List Int),a1≤8*b.length→w.length=2+P.length+N.length→s.length=2+P.length+N.length→(∀ x∈w,U64 x)→∃ (a':Nat) (e':Int) (w' s':List Int),Z06.l1 b H L M t P N la o i tm (a1:Int) e1 w s ((k:Int)+1)=some ((a':Int),e',w',s')∧a'≤8*b.length∧w'.length=2+P.length+N.length∧s'.length=2+P.length+N.length∧∀ x∈w',U64 x:=by
   intro a1 e1 w s h1 h2 h3 h4
   have:=ih w s a1 e1 (k+1) (by omega) h2 h3 h4 h1
   rwa [show((k+1:Nat):Int)=(k:Int)+1 by omega] at this
  by_cases i0:i=0
  ·obtain⟨n,a1,e1,h1,h2,h3⟩:=count_tot hb ha e
   rw[if_pos (by simpa using i0),h1,sb,aw,sb,sb]
   dsimp only
   exact nx a1 e1 _ step h2 (by simpa using hw) hs (Zdm hu ⟨by omega,by omega⟩)
  rw[if_neg (by simpa using i0)]
  by_cases i1:i=1
  ·obtain⟨x,a1,e1,h1,h2,h3⟩:=Zdt     hb ha e
   rw[if_pos (by simpa using i1),h1,sb,aS,sb,aw,sb]
   dsimp only
   rw[aS2,sb,sb]
   dsimp only
   rw[sb]
   dsimp only
   exact nx a1 e1 _ _ h2 (by simpa using hw) (by simpa using hs) (Zdm hu (Z7t _))
  ·obtain⟨x,a1,e1,h1,h2,h3⟩:=Zdt     hb ha e
   rw[if_neg (by simpa using i1),aS,sb,h1,sb,aw,sb]
   dsimp only
   rw[aS2,sb,sb]
   dsimp only
   rw[sb]
   dsimp only
   exact nx a1 e1 _ _ h2 (by simpa using hw) (by simpa using hs) (Zdm hu (Z7t _))
theorem seqI_mem {x:Int}:∀ {n:Nat} {a:Int},x∈seqI a n→a≤x∧x<a+n
 | 0,a,h=>by simp[seqI] at h
 | n+1,a,h=>by
  rw[seqI] at h
  rcases List.mem_cons.1 h with rfl | h
  ·omega
  ·have:=seqI_mem h;omega
theorem idxs_bd {x:Int}:∀ (r:List Z3e) (a:Int),(∀ s∈r,-3000000≤s.f0∧s.f0≤3000000∧0≤s.f1∧s.f1≤1000000)→x∈idxs r a→a-3000000*(r.length:Int)≤x∧x≤a+4000000*(r.length:Int)
 | [],a,_,h=>by simp[idxs] at h
 | s::r,a,hs,h=>by
  have q:=hs s (by simp)
  rw[idxs] at h
  simp only[List.length_cons]
  rcases List.mem_append.1 h with h | h
  ·have:=seqI_mem h;omega
  ·have:=idxs_bd r _ (fun s hs'=>hs s (by simp[hs'])) h;omega
theorem LOk.ind {L:Zd} (h:LOk L):∃ P,Zw.f L=some P∧P.length≤512∧∀ i∈P,I64 i:=by
 have:=h.first
 refine⟨_,ind_eq L h.sp (by omega) (by have:=h.len;omega),by rw[idxs_len];exact h.len,fun i hi => ?_⟩
 have:=idxs_bd L.f1 L.f0 h.sp.ok hi
 have:=h.sp.len
 omega
structure HOk (h:Zg):Prop where
 fits:Fits h
 pos:h.f6.length≤512
 neg:h.f7.length≤512
theorem HOk.zero:HOk (⟨0,0,0,0,0,0,[],[]⟩:Zg):=⟨⟨by decide,by decide,by decide,by decide,by decide,by decide,by simp,by simp⟩,by simp,by simp⟩
theorem smp_tot (hb:Src b) {L M:Zd} {P N:List Int} (iP:Zw.f L=some P) (iN:Zw.f M=some N) (lP:P.length≤512) (lN:N.length≤512) (bP:∀ i∈P,I64 i) (bN:∀ i∈N,I64 i) (H:Zg) (hH:I64 H.f0∧I64 H.f1∧I64 H.f2∧U64 H.f4) (t:Int×Int×Int) (ht:0≤t.1∧t.1≤31) :
  ∀ (m:Nat) (was step:List Int) (la gap:Int) (o:List Z7) (a:Nat) (e:Int) (i:Int),33-i≤m→i=(o.length:Int)→o.length≤32→was.length=2+P.length+N.length→step.length=2+P.length+N.length→(∀ x∈was,U64 x)→(∀ s∈o,HOk s.f1)→a≤8*b.length →
  ∃ (r:List Z7) (a':Nat) (e':Int),Z06.l0 b H L M t P N ((a:Int),e,was,step,la,gap,o,i)=some (r,(a':Int),e')∧a'≤8*b.length∧r.length≤32∧∀ s∈r,HOk s.f1:=by
 intro m
 induction m with
 | zero=>intro was step la gap o a e i hm hi ho;omega
 | succ m ih =>
  intro was step la gap o a e i hm hi ho hw hs hu hok ha
  rw[Z06.l0]
  dsimp only
  rw[Za (n:=1+t.1) (by omega) (by omega)]
  by_cases c:i<1+t.1
  case neg=>rw[if_neg (by simpa using c),sb,if_neg (by simp)];exact⟨o,a,e,rfl,ha,ho,hok⟩
  rw[if_pos (by simpa using c),err_eq,sb,sb]
  by_cases he:e=0
  case neg=>rw[if_neg (by simpa using he)];exact⟨o,a,e,rfl,ha,ho,hok⟩
  rw[if_pos (by simpa using he)]
  have T:∃ (a1:Nat) (e1 tm:Int),((if(i==(0:Int))=true then((Z3.f b (a:Int) e 1099511627776)>>=fun t3202=>some (t3202.2.1,t3202.2.2,t3202.1)) else(((if(i==(1:Int))=true then((Z3.f b (a:Int) e 1099511627776)>>=fun t3207=>some (t3207.2.1,t3207.2.2,i64.wrap ((i64.wrap (la+(1:Int)))+t3207.1))) else((Z0g.f b (a:Int) e)>>=fun t3211=>some (t3211.2.1,t3211.2.2,i64.wrap ((i64.wrap (la+gap))+t3211.1)))):Option (Int×Int×Int))>>=fun oo=>match oo with | (x3213,x3214,x3215)=>(some (x3213,x3214,x3215)))):Option (Int×Int×Int))=some ((a1:Int),e1,tm)∧a1≤8*b.length:=by
   by_cases i0:i=0
   ·obtain⟨n,a1,e1,h1,h2,h3⟩:=Z85       hb ha e (m:=1099511627776) (by omega)
    rw[if_pos (by simpa using i0),show Z3.f b (a:Int) e 1099511627776=_ from h1,sb]
    exact⟨_,_,_,rfl,h2⟩
   rw[if_neg (by simpa using i0)]
   by_cases i1:i=1
   ·obtain⟨n,a1,e1,h1,h2,h3⟩:=Z85       hb ha e (m:=1099511627776) (by omega)
    rw[if_pos (by simpa using i1),show Z3.f b (a:Int) e 1099511627776=_ from h1,sb,sb]
    exact⟨_,_,_,rfl,h2⟩
   ·obtain⟨x,a1,e1,h1,h2,h3⟩:=Zdt     hb ha e
    rw[if_neg (by simpa using i1),h1,sb,sb]
    exact⟨_,_,_,rfl,h2⟩
  obtain⟨a1,e1,tm,E1,g1⟩:=T
  rw[E1,sb]
  dsimp only
  obtain⟨a2,e2,w,s,E2,g2,g3,g4,g5⟩:=s1_tot hb H L M t P N (by omega) (by omega) la o i tm _ was step a1 e1 0 (Nat.le_refl _) hw hs hu g1
  rw[show Z06.l1 b H L M t P N la o i tm (a1:Int) e1 was step 0=_ from E2,sb]
  dsimp only
  have w2:i64.wrap ((2:Int)+(P.length:Int))=((2+P.length:Nat):Int):=by rw[Za (by omega) (by omega)];omega
  have A0:at? w 0=some (w[0]'(by omega)):=Z5y (k:=0) rfl (List.getElem?_eq_getElem _)
  have A1:at? w 1=some (w[1]'(by omega)):=Z5y (k:=1) rfl (List.getElem?_eq_getElem _)
  have u0:=g5 _ (List.getElem_mem (l:=w) (n:=0) (by omega))
  have B1:=Zf6 iP (by omega) (c:=(w.drop (Int.toNat (2:Int))).take (Int.toNat (((2+P.length:Nat):Int))-Int.toNat (2:Int))) (by
   rw[List.length_take,List.length_drop,show Int.toNat (2:Int)=2 from rfl,Int.toNat_natCast];omega)
  have B2:=Zf6 iN (by omega) (c:=(w.drop (Int.toNat (((2+P.length:Nat):Int)))).take (Int.toNat (w.length:Int)-Int.toNat (((2+P.length:Nat):Int)))) (by
   rw[List.length_take,List.length_drop,Int.toNat_natCast,Int.toNat_natCast];omega)
  rw[A0,sb,A1,sb,w2,chkB (by omega),B1,sb,chkB (by omega),B2,sb]
  have l1:=bks_len P ((w.drop (Int.toNat (2:Int))).take (Int.toNat (((2+P.length:Nat):Int))-Int.toNat (2:Int)))
  have l2:=bks_len N ((w.drop (Int.toNat (((2+P.length:Nat):Int)))).take (Int.toNat (w.length:Int)-Int.toNat (((2+P.length:Nat):Int))))
  have m1:∀ y∈bks P ((w.drop (Int.toNat (2:Int))).take (Int.toNat (((2+P.length:Nat):Int))-Int.toNat (2:Int))),I64 y.f0∧U64 y.f1:=fun y hy=>by
   have q:=bks_mem _ _ y hy
   exact⟨bP _ q.1,g5 _ (List.mem_of_mem_drop (List.mem_of_mem_take q.2.1))⟩
  have m2:∀ y∈bks N ((w.drop (Int.toNat (((2+P.length:Nat):Int)))).take (Int.toNat (w.length:Int)-Int.toNat (((2+P.length:Nat):Int)))),I64 y.f0∧U64 y.f1:=fun y hy=>by
   have q:=bks_mem _ _ y hy
   exact⟨bN _ q.1,g5 _ (List.mem_of_mem_drop (List.mem_of_mem_take q.2.1))⟩
  generalize bks P ((w.drop (Int.toNat (2:Int))).take (Int.toNat (((2+P.length:Nat):Int))-Int.toNat (2:Int)))=Pb at *
  generalize bks N ((w.drop (Int.toNat (((2+P.length:Nat):Int)))).take (Int.toNat (w.length:Int)-Int.toNat (((2+P.length:Nat):Int))))=Nb at *
  obtain⟨r,e3,E3,k1,k2,k3,k4⟩:=make_spec (⟨H.f0,H.f1,H.f2,w[0]'(by omega),H.f4,i64.wrap (w[1]'(by omega)),Pb,Nb⟩:Zg) Pb Nb ⟨hH.1,hH.2.1,hH.2.2.1,u0,hH.2.2.2,Z9q _,m1,m2⟩ (by omega) (by omega) m1 m2
  have hr:HOk r:=by
   by_cases he3:e3=0
   ·obtain⟨fr,cr,_⟩:=k4 he3
    obtain⟨x,ex,hx⟩:=Ze6 r fr (by omega) (by omega)
    rw[cr] at ex
    have v:=hx.1 (Option.some.inj ex).symm
    exact⟨fr,v.pos.len,v.neg.len⟩
   ·rw[k3 he3];exact HOk.zero
  rw[E3,sb,chkB (by simp;omega),Za (n:=i+1) (by omega) (by omega)]
  exact ih w s tm _ (o++[⟨tm,r⟩]) a2 e2 (i+1) (by omega) (by simp;omega) (by simp;omega) g3 g4 g5 (fun s hs=>by
   rcases List.mem_append.1 hs with hs | hs
   ·exact hok s hs
   ·simp at hs;subst hs;exact hr) g2
theorem get_fwd (hb:Src b) {a k:Nat} {s z:List Bool} (hk:k≤64) (hs:s.length=k) (ha:a≤8*b.length) (h:(Z0c b).drop a=s++z):Zi.f b (a:Int) 0 (k:Int)=some (((val s:Nat):Int),((a+k:Nat):Int),0):=by
 have l1:=congrArg List.length h
 simp only[List.length_drop,Z21,List.length_append] at l1
 rcases Zb4 hb hk ha with ⟨_,h2⟩ | ⟨h1,_⟩
 ·rw[h2,h,List.take_left' hs]
 ·omega
theorem get_tot (hb:Src b) {a k:Nat} (hk:k≤64) (ha:a≤8*b.length) (e:Int):∃ (n a1:Nat) (e1:Int),Zi.f b (a:Int) e (k:Int)=some ((n:Int),(a1:Int),e1)∧a1≤8*b.length∧n<2 ^ k:=by
 have hp:0<2 ^ k:=Nat.pow_pos (by omega)
 by_cases he:e=0
 ·subst he
  rcases Zb4 hb hk ha with ⟨h1,h2⟩ | ⟨h1,h2⟩
  ·refine⟨_,_,0,h2,h1,?_⟩
   have:=Zet (((Z0c b).drop a).take k)
   rwa [List.length_take,List.length_drop,Z21,Nat.min_eq_left (by omega)] at this
  ·exact⟨0,8*b.length,7,h2,Nat.le_refl _,hp⟩
 ·exact⟨0,a,e,get_bad hk he,ha,hp⟩
theorem bit_tot (hb:Src b) {a:Nat} (ha:a≤8*b.length):∃ (x:Bool) (a1:Nat) (e1:Int),Z0a.f b (a:Int) 0=some (x,(a1:Int),e1)∧a1≤8*b.length:=by
 by_cases h:a<8*b.length
 ·have hlt:a<(Z0c    b).length:=by rw[Z21       ];exact h
  exact⟨_,a+1,0,Zac hb (List.getElem?_eq_getElem hlt),by omega⟩
 ·exact⟨false,a,7,rbit_end hb (by omega),ha⟩
theorem enc_tot (l:List Z7) (hl:l.length≤1000) (hk:∀ s∈l,HOk s.f1):∃ (x:List Int) (e:Int),Z02.f l=some (x,e)∧x.length<1000000000000∧(e=0→COk l∧l≠[]∧Z0m.f l=some 0∧∃ f,Laid x f (Z6o l)):=by
 obtain⟨e,e1,e3⟩:=chk_p l (by omega) (fun s hs=>(hk s hs).fits)
 by_cases he:e=0
 ·subst he
  obtain⟨hc,hne⟩:=e3 rfl
  obtain⟨x,f,E,h⟩:=enc_eq hc hne (fun s hs=>(hk s hs).fits) e1
  have:=h.len
  have:=h.lt
  have:=Z9u hc (fun s hs=>(hk s hs).fits)
  exact⟨x,0,E,by omega,fun _=>⟨hc,hne,e1,f,h⟩⟩
 ·refine⟨[],e,?_,by simp,fun h=>absurd h he⟩
  unfold Z02.f
  rw[e1,sb,if_pos (by simpa using he)]
theorem dec_tot (hb:Src b):∃ (l:List Z7) (e:Int),Z5a.f b=some (l,e)∧((e=6∧l=[])∨(e=0∧COk l∧l≠[]∧(∀ s∈l,HOk s.f1)∧Z0m.f l=some 0∧∃ f,Laid b f (Z6o l))):=by
 have hbl:=hb.len
 unfold Z5a.f Z4g.f
 rw[sb]
 obtain⟨x,a1,e1,E1,g1⟩:=bit_tot hb (a:=0) (by omega)
 rw[show Z0a.f b 0 0=_ from E1,sb]
 dsimp only
 obtain⟨K,EK,hK⟩:∃ K:Int,((if x=true then(some 1) else(some 0)):Option (Int))=some K∧I64 K:=by
  cases x
  ·exact⟨0,rfl,by omega⟩
  ·exact⟨1,rfl,by omega⟩
 rw[EK,sb]
 obtain⟨n,a2,e2,E2,g2,h2⟩:=get_tot hb (k:=4) (by omega) g1 e1
 rw[show Zi.f b (a1:Int) e1 4=_ from E2,sb]
 dsimp only
 obtain⟨z,a3,e3,E3,g3,h3⟩:=Zdt hb g2 e2
 rw[E3,sb]
 dsimp only
 by_cases c:z < -524288∨z>262144
 ·have:((if(decide (z<(-524288)))=true then(some true) else(some (decide (z>(262144:Int))))):Option (Bool))=some true:=by
   by_cases c1:z < -524288
   ·rw[if_pos (by simpa using c1)]
   ·rw[if_neg (by simpa using c1)];simp;omega
  rw[this,sb,if_pos rfl]
  exact⟨[],6,rfl,.inl ⟨rfl,rfl⟩⟩
 have:((if(decide (z<(-524288)))=true then(some true) else(some (decide (z>(262144:Int))))):Option (Bool))=some false:=by
  rw[if_neg (by simp;omega)];simp;omega
 rw[this,sb,if_neg (by simp)]
 obtain⟨L,a4,e4,E4,g4,h4⟩:=tk_tot hb g3 e3
 rw[E4,sb]
 dsimp only
 obtain⟨M,a5,e5,E5,g5,h5⟩:=tk_tot hb g4 e4
 rw[E5,sb]
 dsimp only
 obtain⟨P,iP,lP,bP⟩:=h4.ind
 obtain⟨N,iN,lN,bN⟩:=h5.ind
 obtain⟨q,a6,e6,E6,g6,h6⟩:=Z85 hb g5 e5 (m:=31) (by omega)
 have ES:∃ (r:List Z7) (a':Nat) (e':Int),Z06.f b (a5:Int) e5 (⟨K,i64.wrap ((i64.wrap (n:Int))+(-4)),z,0,0,0,[],[]⟩:Zg) L M=some (r,(a':Int),e')∧a'≤8*b.length∧r.length≤32∧∀ s∈r,HOk s.f1:=by
  unfold Z06.f
  rw[show Z3.f b (a5:Int) e5 31=_ from E6,sb,iP,sb,iN,sb,wide_eq (by omega) (by omega),chkB (by omega)]
  obtain⟨r,a',e',E,k1,k2,k3⟩:=smp_tot hb iP iN lP lN bP bN (⟨K,i64.wrap ((i64.wrap (n:Int))+(-4)),z,0,0,0,[],[]⟩:Zg) ⟨hK,Z9q _,by dsimp only;omega,by dsimp only;omega⟩ ((q:Int),(a6:Int),e6) (by dsimp only;omega) 33 (List.replicate (Int.toNat ((2+P.length+N.length:Nat):Int)) 0) (List.replicate (Int.toNat ((2+P.length+N.length:Nat):Int)) 0) 0 0 [] a6 e6 0 (by omega) rfl (by simp) (by rw[List.length_replicate,Int.toNat_natCast]) (by rw[List.length_replicate,Int.toNat_natCast]) (fun x hx=>by rw[List.eq_of_mem_replicate hx];omega) (by simp) g6
  dsimp only
  rw[E,sb]
  exact⟨r,a',e',rfl,k1,k2,k3⟩
 obtain⟨r,a7,e7,E7,g7,h7,k7⟩:=ES
 rw[E7,sb]
 dsimp only
 obtain⟨w,a8,e8,E8⟩:=end_tot hb g7 e7
 rw[E8,sb]
 dsimp only
 by_cases hw:w=0
 case neg=>rw[if_pos (by simpa using hw)];exact⟨[],6,rfl,.inl ⟨rfl,rfl⟩⟩
 rw[if_neg (by simpa using hw)]
 obtain⟨y,e9,E9,h9,k9⟩:=enc_tot r (by omega) k7
 rw[E9,sb]
 dsimp only
 by_cases he:e9=0
 case neg=>rw[if_pos (by simpa using he),sb,if_pos rfl];exact⟨[],6,rfl,.inl ⟨rfl,rfl⟩⟩
 obtain⟨q1,q2,q3,f,q4⟩:=k9 he
 rw[if_neg (by simpa using he),eqbytes y b h9,sb,sb]
 by_cases hyb:y=b
 ·rw[if_neg (by simp[hyb])]
  subst hyb
  exact⟨r,0,rfl,.inr ⟨rfl,q1,q2,k7,q3,f,q4⟩⟩
 ·rw[if_pos (by simp[hyb])];exact⟨[],6,rfl,.inl ⟨rfl,rfl⟩⟩
end Go.Proofs.YtinhldbfifpakaaGreat.PvGL2
set_option linter.unusedVariables false
set_option linter.unusedSimpArgs false
set_option maxRecDepth 10000
namespace Go.Proofs.YtinhldbfifpakaaGreat.PvGL2
open Go Go.Pv Go.Pv.GS Go.IntKind
def by8 (l:List Int):List Bool:=l.flatMap fun n=>nb n.toNat 8
theorem Ze8 (l:List Int):(by8 l).length=8*l.length:=by
 induction l with
 | nil=>rfl
 | cons x l ih=>simp only[by8,List.flatMap_cons,List.length_append,Z50,List.length_cons] at ih ⊢;omega
def Z6i (t:ByteArray):List Bool:=cnt2 t.size++by8 (Z56 t)
theorem Z4y (t:ByteArray):(Z56 t).length=t.size:=by simp only[Z56,List.length_map,Array.length_toList];rfl
theorem Z8z (t:ByteArray):∀ n∈Z56 t,0≤n∧n<256:=by
 intro n hn
 obtain⟨c,_,rfl⟩:=List.mem_map.1 hn
 have:=c.toNat_lt
 omega
theorem bytesL_bt {t:ByteArray} {i:Nat} {x:Int} (h:(Z56 t)[i]? = some x):bt t (i:Int)=x:=by
 unfold Z56 at h
 rw[List.getElem?_map,Array.getElem?_toList] at h
 unfold bt
 rw[Int.toNat_natCast]
 cases e:t.data[i]? with
 | none=>rw[e] at h;simp at h
 | some c=>rw[e] at h;simpa using h
theorem Zc6 (t:ByteArray):Z5l (Z56 t)=t:=by
 rw[strOf_eq]
 have:toB (Z56 t)=t.data.toList:=by
  unfold toB Z56
  rw[List.map_map]
  conv=>rhs;rw[← List.map_id t.data.toList]
  apply List.map_congr_left
  intro c _
  simp
 rw[this]
theorem Z73 {x:List Int} (h:∀ n∈x,0≤n∧n<256):Z56 (Z5l x)=x:=by
 rw[strOf_eq]
 unfold Z56 toB
 simp only[List.map_map]
 conv=>rhs;rw[← List.map_id x]
 apply List.map_congr_left
 intro n hn
 have:=h n hn
 simp;omega
theorem text_l0 (t:ByteArray) (ht:t.size≤2000000):∀ (suf pre:List Int) (b:List Int) (f:Nat) (s:List Bool) (i:Int),Z56 t=pre++suf→i=(pre.length:Int)→s.length+8*suf.length<800000000000→Laid b f s →
  ∃ (b':List Int) (f':Nat),Z1l.l0 t b (f:Int) i=some (b',(f':Int))∧Laid b' f' (s++by8 suf):=by
 intro suf
 induction suf with
 | nil =>
  intro pre b f s i h1 hi _ hL
  have:=Z4y t
  rw[h1] at this
  refine⟨b,f,?_,by simpa[by8] using hL⟩
  rw[Z1l.l0,if_neg (by simp at this;simp;omega)]
 | cons x suf ih =>
  intro pre b f s i h1 hi hs hL
  have hlen:=Z4y t
  rw[h1] at hlen
  simp only[List.length_append,List.length_cons] at hlen hs
  have hx:=Z8z t x (by rw[h1];simp)
  have hb:bt t i=x:=by rw[hi];exact bytesL_bt (by rw[h1];simp)
  obtain⟨b1,f1,e1,h2⟩:=wput hL (by omega) (n:=x) (by omega) (by omega) (k:=8) (by omega)
  rw[Z1l.l0,if_pos (by simp;omega),chkB (by omega),hb,Z31 (by omega) (by omega),show(8:Int)=((8:Nat):Int) from rfl,e1,sb,Za (n:=i+1) (by omega) (by omega)]
  obtain⟨b2,f2,e2,h3⟩:=ih (pre++[x]) b1 f1 _ (i+1) (by simp[h1]) (by simp;omega) (by rw[List.length_append,Z50];omega) h2
  refine⟨b2,f2,e2,?_⟩
  simpa[by8] using h3
theorem text_eq {b:List Int} {f:Nat} {s:List Bool} (h:Laid b f s) (t:ByteArray) (ht:t.size≤2000000) (hl:s.length<700000000000) :
  ∃ (b':List Int) (f':Nat),Z1l.f b (f:Int) t=some (b',(f':Int))∧Laid b' f' (s++Z6i t):=by
 unfold Z1l.f
 obtain⟨b1,f1,e1,h1⟩:=Z6b h (by omega) (n:=(t.size:Int)) (by omega) (by omega)
 rw[Z31 (by omega) (by omega),e1,sb]
 rw[Int.toNat_natCast] at h1
 have:=Z0e t.size
 have hb:=Z4y t
 obtain⟨b2,f2,e2,h2⟩:=text_l0 t ht (Z56 t) [] b1 f1 _ 0 rfl rfl (by rw[List.length_append];omega) h1
 rw[e2,sb]
 exact⟨b2,f2,rfl,by rw[Z6i,← List.append_assoc];exact h2⟩
theorem u8w {v:Int} (h0:0≤v) (h1:v<256):u8.wrap v=v:=by
 simp only[IntKind.wrap,IntKind.signed,IntKind.bits];simp;omega
theorem rep_set {n i:Nat} (h:i<n) (p:List Int) (hp:p.length=i) (y:Int):(p++List.replicate (n-i) (0:Int)).set (Int.toNat (i:Int)) y=(p++[y])++List.replicate (n-(i+1)) (0:Int):=by
 rw[show n-i=(n-(i+1))+1 from by omega,List.replicate_succ]
 exact(set_mid p 0 y _ (by omega)).trans (by simp)
variable {b:List Int}
theorem tk_fwd_l0 (hb:Src b) (t:Int×Int×Int) (n:Nat) (hn:n≤1048576) (ht:t.1=(n:Int)) (z:List Bool):∀ (suf pre:List Int) (a:Nat) (i:Int),pre.length+suf.length=n→i=(pre.length:Int)→(∀ x∈suf,0≤x∧x<256)→a≤8*b.length→(Z0c b).drop a=by8 suf++z →
  Z07.l0 b t (a:Int) 0 (pre++List.replicate (n-pre.length) (0:Int)) i=some (pre++suf,((a+8*suf.length:Nat):Int),0):=by
 intro suf
 induction suf with
 | nil =>
  intro pre a i h1 hi _ _ _
  simp only[List.length_nil,Nat.add_zero] at h1
  rw[Z07.l0,if_neg (by rw[ht];simp;omega),show n-pre.length=0 from by omega]
  simp
 | cons x suf ih =>
  intro pre a i h1 hi hx ha hd
  simp only[List.length_cons] at h1
  have hx0:=hx x (by simp)
  have hd2:(Z0c b).drop a=nb x.toNat 8++(by8 suf++z):=by rw[hd];simp[by8]
  have hget:=get_fwd hb (k:=8) (by omega) (Z50 x.toNat 8) ha hd2
  rw[val_nb,Nat.mod_eq_of_lt (by omega)] at hget
  have l1:=congrArg List.length hd2
  simp only[List.length_drop,Z21,List.length_append,Z50] at l1
  have hd3:(Z0c b).drop (a+8)=by8 suf++z:=by
   rw[← List.drop_drop,hd2,List.drop_left' (Z50 ..)]
  rw[Z07.l0,if_pos (by rw[ht];simp;omega),show(8:Int)=((8:Nat):Int) from rfl,hget,sb]
  rw[show at? (pre++List.replicate (n-pre.length) (0:Int)) i=some 0 from by
   rw[show n-pre.length=(n-(pre.length+1))+1 from by omega,List.replicate_succ];exact Zef pre 0 _ hi,sb]
  dsimp only
  rw[hi,rep_set (by omega) pre rfl,Za (n:=(pre.length:Int)+1) (by omega) (by omega)]
  have hw:u8.wrap ((x.toNat:Nat):Int)=x:=by rw[show((x.toNat:Nat):Int)=x from by omega];exact u8w (by omega) (by omega)
  rw[hw]
  have:=ih (pre++[x]) (a+8) ((pre.length:Int)+1) (by simp;omega) (by simp) (fun y hy=>hx y (by simp[hy])) (by omega) hd3
  simp only[List.length_append,List.length_singleton] at this
  rw[this]
  simp only[List.append_assoc,List.singleton_append,List.length_cons]
  congr 4
  omega
theorem left_ok (a e:Int):Z0h.f b a e=some ():=rfl
theorem taken_fwd (hb:Src b) {t:ByteArray} (ht:t.size≤1048576) {a:Nat} {z:List Bool} (ha:a≤8*b.length) (h:(Z0c b).drop a=Z6i t++z) :
  Z07.f b (a:Int) 0=some (t,((a+(Z6i t).length:Nat):Int),0):=by
 have hbl:=Z4y t
 have h1:(Z0c b).drop a=cnt2 t.size++(by8 (Z56 t)++z):=by rw[h,Z6i,List.append_assoc]
 have hlen:=congrArg List.length h1
 simp only[List.length_drop,Z21,List.length_append,Ze8] at hlen
 have h2:(Z0c b).drop (a+(cnt2 t.size).length)=by8 (Z56 t)++z:=by rw[← List.drop_drop,h1,List.drop_left' rfl]
 have hB:=hb.len
 unfold Z07.f
 rw[show(1048576:Int)=((1048576:Nat):Int) from rfl,small_fwd hb ht (by omega) ha h1,sb]
 dsimp only
 rw[left_ok,sb,Za (n:=8*(b.length:Int)) (by omega) (by omega),Za (n:=8*(b.length:Int)-_) (by omega) (by omega)]
 have hdiv:(8*(b.length:Int)-((a+(cnt2 t.size).length:Nat):Int)).tdiv 8=(((8*b.length-(a+(cnt2 t.size).length)) / 8:Nat):Int):=by
  rw[show 8*(b.length:Int)-((a+(cnt2 t.size).length:Nat):Int)=((8*b.length-(a+(cnt2 t.size).length):Nat):Int) from by omega]
  exact(Int.ofNat_tdiv _ 8).symm
 rw[hdiv,Za (by omega) (by omega),if_neg (by simp;omega),chkB (by omega),Int.toNat_natCast]
 have:=tk_fwd_l0 hb ((t.size:Int),((a+(cnt2 t.size).length:Nat):Int),0) t.size ht rfl z (Z56 t) [] (a+(cnt2 t.size).length) 0 (by simpa using hbl) rfl (Z8z t) (by omega) h2
 simp only[List.nil_append,List.length_nil,Nat.sub_zero] at this
 rw[this,sb]
 dsimp only
 rw[Zc6]
 congr 4
 rw[Z6i,List.length_append,Ze8]
 omega
theorem by8_of:∀ (m:Nat) (s:List Bool),8*m≤s.length→∃ suf:List Int,suf.length=m∧(∀ x∈suf,0≤x∧x<256)∧s=by8 suf++s.drop (8*m):=by
 intro m
 induction m with
 | zero=>intro s _;exact⟨[],rfl,by simp,by simp[by8]⟩
 | succ m ih =>
  intro s hs
  obtain⟨suf,h1,h2,h3⟩:=ih (s.drop 8) (by rw[List.length_drop];omega)
  have hv:=Zet (s.take 8)
  have hl8:(s.take 8).length=8:=by rw[List.length_take];omega
  rw[hl8] at hv
  refine⟨((val (s.take 8):Nat):Int)::suf,by simp[h1],fun x hx => ?_,?_⟩
  ·rcases List.mem_cons.1 hx with rfl | hx
   ·omega
   ·exact h2 x hx
  ·have e:=nb_val (s.take 8)
   rw[hl8] at e
   have e2:by8 (((val (s.take 8):Nat):Int)::suf)=s.take 8++by8 suf:=by
    simp only[by8,List.flatMap_cons,Int.toNat_natCast,e]
   rw[e2,List.append_assoc]
   conv=>lhs;rw[← List.take_append_drop 8 s,h3]
   rw[List.drop_drop,show 8+8*m=8*(m+1) from by omega]
theorem Zeu {a:Nat} (ha:a≤8*b.length) (hB:b.length<1000000000000) (t:Int×Int×Int) (e:Int) (h1:t.1=0) :
  (if(decide (t.1>(i64.wrap (Int.tdiv (i64.wrap ((i64.wrap ((8:Int)*(b.length:Int)))-(a:Int))) (8:Int)))))=true then((Z3.f b a e (-1))>>=fun t5309=>some ((⟨#[]⟩:ByteArray),t5309.2.1,t5309.2.2)) else((chk (0≤t.1∧t.1≤t.1∧((1:Nat):Int)*t.1≤281474976710656∧t.1≤9223372036854775807))>>=fun _=>(Z07.l0 b t a e (List.replicate (Int.toNat t.1) (0:Int)) 0)>>=fun oo=>match oo with | (x5339,x5340,x5341)=>(some (Z5l x5339,x5340,x5341))))=some ((⟨#[]⟩:ByteArray),(a:Int),e):=by
 have hdiv:(8*(b.length:Int)-(a:Int)).tdiv 8=(((8*b.length-a) / 8:Nat):Int):=by
  rw[show 8*(b.length:Int)-(a:Int)=((8*b.length-a:Nat):Int) from by omega]
  exact(Int.ofNat_tdiv _ 8).symm
 rw[Za (n:=8*(b.length:Int)) (by omega) (by omega),Za (n:=8*(b.length:Int)-_) (by omega) (by omega),hdiv,Za (by omega) (by omega),if_neg (by simp;omega),chkB (by omega),h1]
 rw[Z07.l0,if_neg (by rw[h1];simp),sb]
 rfl
theorem Zao (hb:Src b) {a:Nat} (ha:a≤8*b.length) (e:Int):∃ (t:ByteArray) (a1:Nat) (e1:Int),Z07.f b (a:Int) e=some (t,(a1:Int),e1)∧a1≤8*b.length∧t.size≤1048576 ∧
  (e≠0→e1≠0)∧(e=0→e1=0→(Z0c b).drop a=Z6i t++(Z0c b).drop a1):=by
 have hB:=hb.len
 by_cases he:e=0
 case neg =>
  refine⟨⟨#[]⟩,a,e,?_,ha,by decide,fun _=>he,fun h=>absurd h he⟩
  unfold Z07.f
  rw[Z70 he,sb]
  dsimp only
  rw[left_ok,sb]
  exact Zeu ha (by omega) (0,(a:Int),e) e rfl
 subst he
 obtain⟨n,a1,e1,s1,s2,s3,s4⟩:=Z63 hb (m:=1048576) (by omega) ha
 rcases s4 with ⟨rfl,s5⟩ | ⟨s5,rfl⟩
 case inr =>
  refine⟨⟨#[]⟩,a1,e1,?_,s2,by decide,fun h=>absurd rfl h,fun _ h=>absurd h s5⟩
  unfold Z07.f
  rw[show(1048576:Int)=((1048576:Nat):Int) from rfl,s1,sb]
  dsimp only
  rw[left_ok,sb]
  exact Zeu s2 (by omega) (((0:Nat):Int),(a1:Int),e1) e1 rfl
 have hdiv:(8*(b.length:Int)-(a1:Int)).tdiv 8=(((8*b.length-a1) / 8:Nat):Int):=by
  rw[show 8*(b.length:Int)-(a1:Int)=((8*b.length-a1:Nat):Int) from by omega]
  exact(Int.ofNat_tdiv _ 8).symm
 by_cases hn:n≤(8*b.length-a1) / 8
 ·have hl:8*n≤((Z0c    b).drop a1).length:=by rw[List.length_drop,Z21       ];omega
  obtain⟨suf,k1,k2,k3⟩:=by8_of n _ hl
  have hsz:(Z5l suf).size=n:=by rw[← Z4y,Z73 k2,k1]
  have hB8:Z6i (Z5l suf)=cnt2 n++by8 suf:=by rw[Z6i,hsz,Z73 k2]
  have hd:(Z0c b).drop a=Z6i (Z5l suf)++((Z0c b).drop a1).drop (8*n):=by rw[hB8,List.append_assoc,← k3];exact s5
  have hl2:=congrArg List.length hd
  simp only[List.length_drop,Z21,List.length_append] at hl2
  refine⟨Z5l suf,a+(Z6i (Z5l suf)).length,0,taken_fwd hb (by omega) ha hd,?_,by omega,fun h=>absurd rfl h,fun _ _ => ?_⟩
  ·have h3:=congrArg List.length s5
   simp only[List.length_drop,Z21,List.length_append] at h3
   rw[hB8,List.length_append,Ze8];omega
  ·conv=>rhs;rw[← List.drop_drop,hd,List.drop_left' rfl]
   exact hd
 ·obtain⟨a2,e2,r1,r2,r3⟩:=small_neg hb s2
  refine⟨⟨#[]⟩,a2,e2,?_,r2,by decide,fun h=>absurd rfl h,fun _ h=>absurd h r3⟩
  unfold Z07.f
  rw[show(1048576:Int)=((1048576:Nat):Int) from rfl,s1,sb]
  dsimp only
  rw[left_ok,sb,Za (n:=8*(b.length:Int)) (by omega) (by omega),Za (n:=8*(b.length:Int)-_) (by omega) (by omega),hdiv,Za (by omega) (by omega),if_pos (by simp;omega),r1,sb]
end Go.Proofs.YtinhldbfifpakaaGreat.PvGL2
set_option linter.unusedVariables false
set_option linter.unusedSimpArgs false
set_option maxRecDepth 100000
namespace Go.Proofs.YtinhldbfifpakaaGreat.PvGL2
open Go Go.Pv Go.Pv.GS Go.IntKind
theorem laid_src {x:List Int} {f:Nat} {l:List Z7} (h:Laid x f (Z6o l)) (hc:COk l) (hk:∀ s∈l,HOk s.f1):Src x∧x.length≤400000:=by
 have h1:=h.len
 have h2:=h.lt
 have h3:=Z9u hc (fun s hs=>(hk s hs).fits)
 exact⟨⟨h.byte,by omega⟩,by omega⟩
end Go.Proofs.YtinhldbfifpakaaGreat.PvGL2
set_option linter.unusedVariables false
set_option linter.unusedSimpArgs false
set_option maxRecDepth 10000
namespace Go.Proofs.YtinhldbfifpakaaGreat.PvGL2
open Go Go.Pv Go.Pv.GS Go.IntKind
def Z77 (l:List Z7):Prop:=∀ pre s suf,l=pre++s::suf→Z1h.f pre s=some true
theorem fits_nil (s:Z7):Z1h.f [] s=some true:=by unfold Z1h.f;rw[if_pos (by simp)]
theorem Z77.one (s:Z7):Z77 [s]:=by
 intro pre x suf h
 cases pre with
 | nil=>exact fits_nil x
 | cons y r=>simp at h
theorem Z77.pre {a b:List Z7} (h:Z77 (a++b)):Z77 a:=fun pre s suf e=>h pre s (suf++b) (by rw[e];simp)
theorem Z77.snoc {a:List Z7} {s:Z7} (h:Z77 a) (hs:Z1h.f a s=some true):Z77 (a++[s]):=by
 intro pre x suf e
 rcases List.eq_nil_or_concat suf with rfl | ⟨S,y,rfl⟩
 ·obtain⟨rfl,e2⟩:=List.append_inj' e rfl
  simp at e2;subst e2;exact hs
 ·rw[List.concat_eq_append] at e
  have e3:a++[s]=(pre++x::S)++[y]:=by rw[e];simp
  obtain⟨rfl,_⟩:=List.append_inj' e3 rfl
  exact h pre x S rfl
structure SOk (s:Z7):Prop where
 v:Z2n s.f1
 f:Fits s.f1
 t:0≤s.f0∧s.f0≤1099511627776
theorem tst (x:Int):((if(decide (x<(0:Int)))=true then(some true) else(some (decide (x>(1099511627776:Int))))):Option (Bool))=some (!decide (0≤x∧x≤1099511627776)):=by
 by_cases c:x<0
 ·rw[if_pos (by simpa using c),decide_eq_false (by omega)];rfl
 ·rw[if_neg (by simpa using c)]
  by_cases c2:x>1099511627776
  ·rw[decide_eq_true c2,decide_eq_false (by omega)];rfl
  ·rw[decide_eq_false c2,decide_eq_true (by omega)];rfl
theorem check0 {s:Z7} (h:SOk s):Z0j.f s.f1=some 0:=by
 obtain⟨r,e1,e3⟩:=Ze7 s.f1 h.f
 rw[e1,e3.2 h.v]
open Classical in
theorem grow_l0 (l:List Z7) (hl:l.length≤900) (hk:∀ s∈l,SOk s):∀ (suf pre:List Z7) (i:Int),l=pre++suf→i=(pre.length:Int) →
  Z0m.l0 l i=some (if ∀ p s q,suf=p++s::q→Z1h.f (pre++p) s=some true then .inr () else .inl 6):=by
 intro suf
 induction suf with
 | nil =>
  intro pre i h1 hi
  rw[Z0m.l0,if_neg (by rw[h1];simp[hi]),if_pos (fun p s q h=>by simp at h)]
 | cons s suf ih =>
  intro pre i h1 hi
  have hlen:l.length=pre.length+(suf.length+1):=by rw[h1];simp
  have hs:=hk s (by rw[h1];simp)
  have hb:¬ ((!decide (0≤s.f0∧s.f0≤1099511627776))=true):=by rw[decide_eq_true hs.t];decide
  obtain⟨r,f1,_⟩:=fits_p pre s (by omega) (fun x hx=>by
   have:x∈l:=by rw[h1];rcases List.mem_append.1 hx with hx | hx;exact List.mem_append_left _ hx;simp at hx;subst hx;simp
   exact⟨(hk x this).v,(hk x this).f⟩) hs.t
  rw[Z0m.l0,if_pos (by simp;omega),Z03 h1 hi,sb,tst,sb,if_neg hb,check0 hs,sb,if_neg (by simp),chkB (by omega),take_pre h1 hi,Za (n:=i+1) (by omega) (by omega),f1,sb]
  cases r with
  | false =>
   rw[if_pos (show(!false)=true from rfl),if_neg]
   intro h
   have:=h [] s suf rfl
   rw[List.append_nil,f1] at this;simp at this
  | true =>
   rw[if_neg (show ¬ ((!true)=true) by simp),ih (pre++[s]) (i+1) (by simp[h1]) (by simp;omega)]
   congr 1
   by_cases c:∀ p x q,suf=p++x::q→Z1h.f (pre++[s]++p) x=some true
   ·rw[if_pos c,if_pos]
    intro p x q e
    cases p with
    | nil=>simp at e;obtain⟨rfl,rfl⟩:=e;rw[List.append_nil];exact f1
    | cons y p=>simp at e;obtain⟨rfl,rfl⟩:=e;have:=c p x q rfl;simpa using this
   ·rw[if_neg c,if_neg]
    intro h
    refine c (fun p x q e => ?_)
    have:=h (s::p) x q (by rw[e];rfl)
    simpa using this
open Classical in
theorem grow_chk (l:List Z7) (hl:l.length≤900) (hne:l≠[]) (hk:∀ s∈l,SOk s):Z0m.f l=some (if Z77 l then 0 else 6):=by
 have hn:¬ (((l.length:Int)==0)=true):=by
  have:l.length≠0:=fun h=>hne (List.length_eq_zero_iff.1 h)
  simp;omega
 unfold Z0m.f
 rw[if_neg hn,grow_l0 l hl hk l [] 0 rfl rfl,sb]
 have e:(∀ p s q,l=p++s::q→Z1h.f ([]++p) s=some true)↔Z77 l:=by simp[Z77]
 by_cases h:Z77 l
 ·rw[if_pos (e.2 h),if_pos h]
 ·rw[if_neg (fun x=>h (e.1 x)),if_neg h]
structure CutOK (C:List (List Z7)):Prop where
 ne:∀ c∈C,c≠[]∧Z77 c
 gap:∀ i c c',C[i]? = some c→C[i+1]? = some c'→∃ s r,c'=s::r∧Z1h.f c s=some false
theorem Zd1 {C:List (List Z7)} (h:∀ c∈C,c≠[]):C.length≤C.flatten.length:=by
 induction C with
 | nil=>simp
 | cons c C ih =>
  have h1:=ih (fun x hx=>h x (by simp[hx]))
  have h2:=List.length_pos_iff.2 (h c (by simp))
  simp only[List.flatten_cons,List.length_append,List.length_cons];omega
theorem CutOK.last {D:List (List Z7)} {c c2:List Z7} {s:Z7} {r:List Z7} (h:CutOK (D++[c])) (hc:c=s::r) (hc2:∃ r2,c2=s::r2) (g:Z77 c2):CutOK (D++[c2]):=by
 obtain⟨r2,rfl⟩:=hc2
 refine⟨fun x hx => ?_,fun i x x' h1 h2 => ?_⟩
 ·rcases List.mem_append.1 hx with hx | hx
  ·exact h.ne x (by simp[hx])
  ·simp at hx;subst hx;exact⟨by simp,g⟩
 ·by_cases hi:i+1<D.length
  ·rw[List.getElem?_append_left (by omega)] at h1 h2
   exact h.gap i x x' (by rw[List.getElem?_append_left (by omega)];exact h1) (by rw[List.getElem?_append_left (by omega)];exact h2)
  ·rw[List.getElem?_append_right (by omega)] at h2
   obtain⟨h3,h4⟩:=List.getElem?_eq_some_iff.1 h2
   simp only[List.length_singleton] at h3
   have e:i+1=D.length:=by omega
   rw[List.getElem?_append_left (by omega)] at h1
   obtain⟨s',r',e1,e2⟩:=h.gap i x c (by rw[List.getElem?_append_left (by omega)];exact h1) (by rw[List.getElem?_append_right (by omega),e];simp)
   rw[hc] at e1
   obtain⟨rfl,rfl⟩:=List.cons.inj e1
   refine⟨s,r2,?_,e2⟩
   rw[← h4];simp[e]
theorem CutOK.snoc {D:List (List Z7)} {c:List Z7} {s:Z7} (h:CutOK (D++[c])) (hs:Z1h.f c s=some false):CutOK (D++[c]++[[s]]):=by
 refine⟨fun x hx => ?_,fun i x x' h1 h2 => ?_⟩
 ·rcases List.mem_append.1 hx with hx | hx
  ·exact h.ne x hx
  ·simp at hx;subst hx;exact⟨by simp,Z77.one s⟩
 ·by_cases hi:i+1<(D++[c]).length
  ·rw[List.getElem?_append_left (by omega)] at h1 h2
   exact h.gap i x x' h1 h2
  ·rw[List.getElem?_append_right (by omega)] at h2
   obtain⟨h3,h4⟩:=List.getElem?_eq_some_iff.1 h2
   simp only[List.length_singleton] at h3
   have e:i=D.length:=by simp at hi h3;omega
   rw[List.getElem?_append_left (by simp;omega),e,List.getElem?_append_right (by omega)] at h1
   simp at h1
   subst h1
   refine⟨s,[],?_,hs⟩
   rw[← h4];simp[e]
theorem cut_l0 (l:List Z7) (hl:l.length≤900) (hk:∀ s∈l,SOk s):∀ (suf:List Z7) (dn:List (List Z7)) (cu:List Z7) (i:Int),l=dn.flatten++cu++suf→i=((dn.flatten++cu).length:Int)→CutOK (dn++[cu]) →
  ∃ C,Z1w.l0 l dn cu i=some C∧C.flatten=l∧CutOK C∧((∀ p s q,suf=p++s::q→Z1h.f (cu++p) s=some true)→C=dn++[cu++suf]):=by
 intro suf
 induction suf with
 | nil =>
  intro dn cu i h1 hi hC
  refine⟨dn++[cu],?_,by rw[h1];simp,hC,fun _=>by simp⟩
  rw[Z1w.l0,if_neg (by rw[h1];simp[hi])]
 | cons s suf ih =>
  intro dn cu i h1 hi hC
  have hlen:l.length=(dn.flatten++cu).length+(suf.length+1):=by rw[h1,List.length_append];rfl
  have hdn:=Zd1 (C:=dn) (fun c hc=>(hC.ne c (by simp[hc])).1)
  have hn:(dn.flatten++cu).length=dn.flatten.length+cu.length:=List.length_append
  have hi1:((dn.flatten++cu++[s]).length:Int)=i+1:=by rw[hi,List.length_append];simp
  have hs:=hk s (by rw[h1];simp)
  obtain⟨r,f1,_⟩:=fits_p cu s (by omega) (fun x hx=>by
   have:x∈l:=by rw[h1];rcases List.mem_append.1 hx with hx | hx;simp[hx];simp at hx;subst hx;simp
   exact⟨(hk x this).v,(hk x this).f⟩) hs.t
  have hi2:i<1000:=by omega
  rw[Z1w.l0,if_pos (decide_eq_true (by omega)),Z03 h1 hi,sb,chkB (by omega),f1,sb,Za (n:=i+1) (by omega) (by omega)]
  cases r with
  | false =>
   rw[if_pos (show(!false)=true from rfl)]
   obtain⟨C,e1,e2,e3,e4⟩:=ih (dn++[cu]) [s] (i+1) (by rw[h1];simp) (by rw[← hi1];simp) (hC.snoc f1)
   refine⟨C,e1,e2,e3,fun h => ?_⟩
   have:=h [] s suf rfl
   rw[List.append_nil,f1] at this;simp at this
  | true =>
   have hcu:=hC.ne cu (by simp)
   obtain⟨x,R,hx⟩:∃ x R,cu=x::R:=by cases cu with | nil=>exact absurd rfl hcu.1 | cons x R=>exact⟨x,R,rfl⟩
   rw[if_neg (show ¬ ((!true)=true) by simp),chkB (by omega)]
   obtain⟨C,e1,e2,e3,e4⟩:=ih dn (cu++[s]) (i+1) (by rw[h1];simp) (by rw[← hi1];simp) (hC.last hx ⟨R++[s],by rw[hx];rfl⟩ (hcu.2.snoc f1))
   refine⟨C,e1,e2,e3,fun h => ?_⟩
   rw[e4 (fun p y q e=>by have:=h (s::p) y q (by rw[e];rfl);simpa using this)]
   simp
theorem cut_ok (l:List Z7) (hl:l.length≤900) (hk:∀ s∈l,SOk s):∃ C,Z1w.f l=some C∧C.flatten=l∧CutOK C∧(l≠[]→Z77 l→C=[l]):=by
 unfold Z1w.f
 cases l with
 | nil=>exact⟨[],rfl,rfl,⟨by simp,by simp⟩,by simp⟩
 | cons s suf =>
  rw[if_pos (by simp),show at? (s::suf) 0=some s from rfl,sb,Za (by omega) (by omega)]
  obtain⟨C,e1,e2,e3,e4⟩:=cut_l0 (s::suf) hl hk suf [] [s] (0+1) (by simp) (by simp) ⟨by simp;exact Z77.one s,by intro i c c' h1 h2;cases i<;>simp at h2⟩
  refine⟨C,e1,e2,e3,fun _ h => ?_⟩
  rw[e4 (fun p x q e=>h ([s]++p) x q (by rw[e];rfl))]
  rfl
end Go.Proofs.YtinhldbfifpakaaGreat.PvGL2
set_option linter.unusedVariables false
set_option linter.unusedSimpArgs false
set_option maxRecDepth 100000
namespace Go.Proofs.YtinhldbfifpakaaGreat.PvGL2
open Go Go.Pv Go.Pv.GS Go.IntKind
theorem awake15:Z45.f=some true:=by cbv
def Z4a (t:Int):Bool:=decide (0≤t∧t≤1099511627776)
open Classical in
noncomputable def sok (s:Z7):Bool:=Z4a s.f0&&decide (Z2n s.f1)
def aft (p:Option Z7) (s:Z7):Bool:=match p with
 | none=>true
 | some q=>decide (q.f0<s.f0)
noncomputable def good (p:Option Z7) (s:Z7):Bool:=sok s&&aft p s
noncomputable def rise:Option Z7→List Z7→Bool
 | _,[]=>true
 | p,s::l=>good p s&&rise (some s) l
def lst:Option Z7→List Z7→Option Z7
 | p,[]=>p
 | _,s::l=>lst (some s) l
theorem lst_app (a b:List Z7):∀ p,lst p (a++b)=lst (lst p a) b:=by
 induction a with
 | nil=>intro p;rfl
 | cons s a ih=>intro p;exact ih _
theorem Zcx (a:List Z7) (s:Z7) (p:Option Z7):lst p (a++[s])=some s:=by rw[lst_app];rfl
def flow (b:Bool):Bool ⊕ Unit:=match b with
 | true=>.inr ()
 | false=>.inl false
theorem ris_step (s:Z7) (hf:Fits s.f1) {l pre suf:List Z7} {i:Int} (h1:l=pre++s::suf) (hi:i=(pre.length:Int)) (hl:l.length<1000000000000000) :
  ((if(decide (s.f0<(0:Int)))=true then(some true) else(if(decide (s.f0>(1099511627776:Int)))=true then(some true) else((Z0j.f s.f1)>>=fun t508=>if(t508 != (0:Int))=true then(some true) else(if(decide (i>(0:Int)))=true then((at? l (i64.wrap (i-(1:Int))))>>=fun b512=>some (decide (b512.f0≥s.f0))) else(some false))))):Option (Bool))=some (!good (lst none pre) s):=by
 have hlen:l.length=pre.length+(suf.length+1):=by rw[h1];simp
 by_cases t0:s.f0<0
 ·rw[if_pos (decide_eq_true t0)]
  have:Z4a s.f0=false:=decide_eq_false (by omega)
  simp[good,sok,this]
 rw[if_neg (by simpa using t0)]
 by_cases t1:s.f0>1099511627776
 ·rw[if_pos (decide_eq_true t1)]
  have:Z4a s.f0=false:=decide_eq_false (by omega)
  simp[good,sok,this]
 rw[if_neg (by simpa using t1)]
 have ht:Z4a s.f0=true:=decide_eq_true (by omega)
 obtain⟨e,e1,e3⟩:=Ze7 s.f1 hf
 rw[e1,sb]
 by_cases he:e=0
 case neg =>
  rw[if_pos (by simpa using he)]
  have:¬ Z2n s.f1:=fun h=>he (e3.2 h)
  simp[good,sok,this]
 rw[if_neg (by simpa using he)]
 have hv:=e3.1 he
 rcases List.eq_nil_or_concat pre with rfl | ⟨Q,q,rfl⟩
 ·rw[if_neg (by simp[hi])]
  simp[good,sok,ht,hv,lst,aft]
 ·rw[List.concat_eq_append] at *
  have hi3:i=(Q.length:Int)+1:=by rw[hi];simp
  simp only[List.length_append,List.length_singleton] at hlen
  rw[if_pos (decide_eq_true (by omega)),Za (n:=i-1) (by omega) (by omega)]
  rw[show at? l (i-1)=some q from Z03 (pre:=Q) (suf:=s::suf) (by rw[h1];simp) (by omega),sb,Zcx]
  simp only[good,sok,ht,hv,aft,Bool.true_and,decide_true]
  congr 1
  by_cases c:q.f0<s.f0
  ·rw[decide_eq_false (by omega),decide_eq_true c];rfl
  ·rw[decide_eq_true (by omega),decide_eq_false c];rfl
theorem ris_l0 (l:List Z7) (hl:l.length<1000000000000000) (hf:∀ s∈l,Fits s.f1):∀ (suf pre:List Z7) (i:Int),l=pre++suf→i=(pre.length:Int)→Z0w.l0 l i=some (flow (rise (lst none pre) suf)):=by
 intro suf
 induction suf with
 | nil=>intro pre i h1 hi;rw[Z0w.l0,if_neg (by rw[h1];simp[hi])];rfl
 | cons s suf ih =>
  intro pre i h1 hi
  have hlen:l.length=pre.length+(suf.length+1):=by rw[h1];simp
  have hst:=ris_step s (hf s (by rw[h1];simp)) h1 hi hl
  have hr:rise (lst none pre) (s::suf)=(good (lst none pre) s&&rise (some s) suf):=rfl
  rw[hr]
  cases g:good (lst none pre) s with
  | false =>
   rw[g] at hst
   rw[Z0w.l0,if_pos (by simp;omega),Z03 h1 hi,sb,hst,sb,if_pos (show(!false)=true from rfl)]
   rfl
  | true =>
   rw[g] at hst
   rw[Z0w.l0,if_pos (by simp;omega),Z03 h1 hi,sb,hst,sb,if_neg (show ¬ (!true)=true by simp),Za (n:=i+1) (by omega) (by omega),ih (pre++[s]) (i+1) (by simp[h1]) (by simp;omega),Zcx,Bool.true_and]
theorem ris_eq (l:List Z7) (hl:l.length<1000000000000000) (hf:∀ s∈l,Fits s.f1):Z0w.f l=some (rise none l):=by
 unfold Z0w.f
 rw[ris_l0 l hl hf l [] 0 rfl rfl,sb]
 show(match flow (rise none l) with | .inl rr=>(some rr) | .inr _=>(some true))=some (rise none l)
 obtain⟨b,hb⟩:∃ b,rise none l=b:=⟨_,rfl⟩
 rw[hb];cases b<;>rfl
theorem rtime (t:Int):Z15.f t=some (Z4a t):=by
 unfold Z15.f Z4a
 by_cases h:t≥0
 ·rw[if_pos (decide_eq_true h),sb];congr 1;apply Bool.eq_iff_iff.2;simp;omega
 ·rw[if_neg (by simpa using h),sb];congr 1;rw[decide_eq_false (by omega)]
theorem rris_l0 (l:List Z7) (hl:l.length<1000000000000000) (hf:∀ s∈l,Fits s.f1∧s.f1.f6.length<1000000000000000∧s.f1.f7.length<1000000000000000):∀ (suf pre:List Z7) (i:Int),l=pre++suf→i=(pre.length:Int)→Z22.l0 l i=some (flow (rise (lst none pre) suf)):=by
 intro suf
 induction suf with
 | nil=>intro pre i h1 hi;rw[Z22.l0,if_neg (by rw[h1];simp[hi])];rfl
 | cons s suf ih =>
  intro pre i h1 hi
  have hlen:l.length=pre.length+(suf.length+1):=by rw[h1];simp
  have hs:=hf s (by rw[h1];simp)
  have step:((((at? l i)>>=fun b6847=>(Z15.f b6847.f0)>>=fun t6850=>if(!t6850)=true then(some true) else((Z08.f b6847.f1)>>=fun t6853=>if(t6853 != (0:Int))=true then(some true) else(if(decide (i>(0:Int)))=true then((at? l (i64.wrap (i-(1:Int))))>>=fun b6857=>some (decide (b6847.f0≤b6857.f0))) else(some false)))):Option (Bool)))=some (!good (lst none pre) s):=by
   rw[Z03 h1 hi,sb,rtime,sb]
   cases ht:Z4a s.f0 with
   | false=>rw[if_pos (show(!false)=true from rfl)];simp[good,sok,ht]
   | true =>
    rw[if_neg (by simp)]
    obtain⟨e,_,e1,e3⟩:=Zf5 s.f1 hs.1 hs.2.1 hs.2.2
    rw[e1,sb]
    by_cases he:e=0
    case neg =>
     rw[if_pos (by simpa using he)]
     have:¬ Z2n s.f1:=fun h=>he (e3.2 h)
     simp[good,sok,this]
    rw[if_neg (by simpa using he)]
    have hv:=e3.1 he
    rcases List.eq_nil_or_concat pre with rfl | ⟨Q,q,rfl⟩
    ·rw[if_neg (by simp[hi])]
     simp[good,sok,ht,hv,lst,aft]
    ·rw[List.concat_eq_append] at *
     have hi3:i=(Q.length:Int)+1:=by rw[hi];simp
     simp only[List.length_append,List.length_singleton] at hlen
     rw[if_pos (decide_eq_true (by omega)),Za (n:=i-1) (by omega) (by omega)]
     rw[show at? l (i-1)=some q from Z03 (pre:=Q) (suf:=s::suf) (by rw[h1];simp) (by omega),sb,Zcx]
     simp only[good,sok,ht,hv,aft,Bool.true_and,decide_true]
     congr 1
     by_cases c:q.f0<s.f0
     ·rw[decide_eq_false (by omega),decide_eq_true c];rfl
     ·rw[decide_eq_true (by omega),decide_eq_false c];rfl
  have hst:=step
  have hr:rise (lst none pre) (s::suf)=(good (lst none pre) s&&rise (some s) suf):=rfl
  rw[hr]
  cases g:good (lst none pre) s with
  | false =>
   rw[g] at hst
   rw[Z22.l0,if_pos (by simp;omega),hst,sb,if_pos (show(!false)=true from rfl)]
   rfl
  | true =>
   rw[g] at hst
   rw[Z22.l0,if_pos (by simp;omega),hst,sb,if_neg (show ¬ (!true)=true by simp),Za (n:=i+1) (by omega) (by omega),ih (pre++[s]) (i+1) (by simp[h1]) (by simp;omega),Zcx,Bool.true_and]
theorem rris_eq (l:List Z7) (hl:l.length<1000000000000000) (hf:∀ s∈l,Fits s.f1∧s.f1.f6.length<1000000000000000∧s.f1.f7.length<1000000000000000):Z22.f l=some (rise none l):=by
 unfold Z22.f
 rw[rris_l0 l hl hf l [] 0 rfl rfl,sb]
 show(match flow (rise none l) with | .inl rr=>(some rr) | .inr _=>(some true))=some (rise none l)
 obtain⟨b,hb⟩:∃ b,rise none l=b:=⟨_,rfl⟩
 rw[hb];cases b<;>rfl
end Go.Proofs.YtinhldbfifpakaaGreat.PvGL2
set_option linter.unusedVariables false
set_option linter.unusedSimpArgs false
set_option maxRecDepth 10000
namespace Go.Proofs.YtinhldbfifpakaaGreat.PvGL2
open Go Go.Pv Go.Pv.GS Go.IntKind
theorem sok_inv {s:Z7} (hf:Fits s.f1) (h:sok s=true):SOk s:=by
 unfold sok Z4a at h
 simp only[Bool.and_eq_true,decide_eq_true_eq] at h
 exact⟨h.2,hf,h.1⟩
theorem SOk.cok {s:Z7} (h:SOk s):COk [s]:=fit_nil s h.v h.t
theorem SOk.hok {s:Z7} (h:SOk s):HOk s.f1:=⟨h.f,h.v.pos.len,h.v.neg.len⟩
def encX (l:List Z7):List Int:=((Z02.f l).getD ([],0)).1
theorem encX_eq {l:List Z7} (hc:COk l) (hne:l≠[]) (hk:∀ s∈l,HOk s.f1) (h0:Z0m.f l=some 0):Z02.f l=some (encX l,0)∧(∃ f,Laid (encX l) f (Z6o l))∧(encX l).length≤400000:=by
 obtain⟨x,f,e,h⟩:=enc_eq hc hne (fun s hs=>(hk s hs).fits) h0
 have hx:encX l=x:=by unfold encX;rw[e];rfl
 rw[hx]
 exact⟨e,⟨f,h⟩,(laid_src h hc hk).2⟩
def smpB (s:Z7):List Bool:=cnt2 1++Z6i (Z5l (encX [s]))
theorem Zbt {x:List Int} {f:Nat} {s:List Bool} (h:Laid x f s):∀ n∈x,0≤n∧n<256:=fun n hn=>h.byte n hn
theorem one_chunk {s:Z7} (h:SOk s):Z1w.f [s]=some [[s]]∧Z02.f [s]=some (encX [s],0)∧(∃ f,Laid (encX [s]) f (Z6o [s]))∧(encX [s]).length≤400000∧Z0m.f [s]=some 0:=by
 have hk:∀ x∈[s],SOk x:=by intro x hx;simp at hx;subst hx;exact h
 obtain⟨C,c1,_,_,c4⟩:=cut_ok [s] (by simp) hk
 have:=c4 (by simp) (Z77.one s)
 subst this
 have h0:Z0m.f [s]=some 0:=by rw[grow_chk [s] (by simp) (by simp) hk,if_pos (Z77.one s)]
 obtain⟨e1,e2,e3⟩:=encX_eq h.cok (by simp) (by intro x hx;simp at hx;subst hx;exact h.hok) h0
 exact⟨c1,e1,e2,e3,h0⟩
variable {b:List Int}
theorem Za3 (a e:Int):Zk.f b a e=some ():=rfl
end Go.Proofs.YtinhldbfifpakaaGreat.PvGL2
set_option linter.unusedVariables false
set_option linter.unusedSimpArgs false
set_option maxRecDepth 10000
namespace Go.Proofs.YtinhldbfifpakaaGreat.PvGL2
open Go Go.Pv Go.Pv.GS Go.IntKind
structure Chu (c:List Z7):Prop where
 cok:COk c
 ne:c≠[]
 k:∀ s∈c,HOk s.f1
 h0:Z0m.f c=some 0
def Z9g (D:List (List Z7)):List Bool:=D.flatMap fun c=>Z6i (Z5l (encX c))
variable {b:List Int}
theorem smp_tot_l0 (hb:Src b) (t:Int×Int×Int) (n:Nat) (hn:n≤65536) (ht:t.1=(n:Int)):∀ (m:Nat) (acc:List Z7) (a:Nat) (e i:Int),i+m=n→0≤i→(acc.length:Int)≤32*i→a≤8*b.length →
  (∃ (a1:Nat) (e1:Int),Z0k.l0 b t (a:Int) e acc i=some (.inl ([],false,(a1:Int),e1))∧a1≤8*b.length∧(e≠0→e1≠0)) ∨
  ∃ (D:List (List Z7     )) (a1:Nat) (e1:Int),                Z0k.l0 b t (a:Int) e acc i=some (.inr (acc++D.flatten,(a1:Int),e1))∧a1≤8*b.length∧(e≠0→e1≠0)∧(∀ c∈D,Chu c)∧D.length≤m ∧
   (e=0→e1=0→D.length=m∧(Z0c b).drop a=Z9g D++(Z0c b).drop a1):=by
 intro m
 induction m with
 | zero =>
  intro acc a e i hi h0 hacc ha
  refine .inr ⟨[],a,e,?_,ha,fun h=>h,by simp,by simp,fun _ _=>⟨rfl,by simp[Z9g]⟩⟩
  rw[Z0k.l0,if_neg (by rw[ht];simp;omega),sb,if_neg (by simp)]
  simp
 | succ m ih =>
  intro acc a e i hi h0 hacc ha
  by_cases he:e=0
  case neg =>
   refine .inr ⟨[],a,e,?_,ha,fun h=>h,by simp,by simp,fun h=>absurd h he⟩
   rw[Z0k.l0,if_pos (by rw[ht];simp;omega),Za3,sb,sb,if_neg (by simpa using he)]
   simp
  subst he
  obtain⟨x,a1,e1,k1,k2,k3,_,k5⟩:=Zao hb ha 0
  have hxl:=Z4y x
  have hsrc:Src (Z56 x):=⟨Z8z x,by omega⟩
  obtain⟨l,d,D1,hr⟩:=dec_tot hsrc
  rw[Z0k.l0,if_pos (by rw[ht];simp;omega),Za3,sb,sb,if_pos (by simp),k1,sb]
  dsimp only
  rw[D1,sb]
  dsimp only
  rcases hr with ⟨rfl,rfl⟩ | ⟨rfl,hc,hne,hk,h00,f,hL⟩
  ·refine .inl ⟨a1,e1,by rw[if_pos (by simp)],k2,fun h=>absurd rfl h⟩
  ·have h32:=hc.len
   rw[if_neg (by simp),chkB (by omega),Za (n:=i+1) (by omega) (by omega)]
   have hX:Z56 x=encX l:=by
    obtain⟨_,⟨f2,h2⟩,_⟩:=encX_eq hc hne hk h00
    exact hL.unique h2
   have hx:x=Z5l (encX l):=by rw[← hX,Zc6]
   have hchu:Chu l:=⟨hc,hne,hk,h00⟩
   rcases ih (acc++l) a1 e1 (i+1) (by omega) (by omega) (by simp;omega) k2 with ⟨a2,e2,r1,r2,r3⟩ | ⟨D,a2,e2,r1,r2,r3,r4,r5,r6⟩
   ·exact .inl ⟨a2,e2,r1,r2,fun h=>absurd rfl h⟩
   ·refine .inr ⟨l::D,a2,e2,?_,r2,fun h=>absurd rfl h,?_,by simp;omega,fun _ h2 => ?_⟩
    ·rw[r1];simp
    ·intro c hc;rcases List.mem_cons.1 hc with rfl | hc
     ·exact hchu
     ·exact r4 c hc
    ·have h1:e1=0:=by
      by_cases h:e1=0
      ·exact h
      ·exact absurd h2 (r3 h)
     obtain⟨q1,q2⟩:=r6 h1 h2
     refine⟨by simp[q1],?_⟩
     rw[k5 rfl h1,q2,hx]
     simp[Z9g]
theorem Zd8 (hb:Src b) {a:Nat} (ha:a≤8*b.length) (e:Int):∃ (l:List Z7) (ok:Bool) (a1:Nat) (e1:Int),Z0k.f b (a:Int) e=some (l,ok,(a1:Int),e1)∧a1≤8*b.length∧(e≠0→e1≠0) ∧
  (ok=true→∃ D:List (List Z7),l=D.flatten∧rise none l=true∧(∀ c∈D,Chu c)∧D.length≤65536∧(e=0→e1=0→(Z0c b).drop a=cnt2 D.length++Z9g D++(Z0c b).drop a1)):=by
 have hB:=hb.len
 obtain⟨n,a0,e0,s1,s2,s3,s4,s5⟩:∃ (n a0:Nat) (e0:Int),Z3.f b (a:Int) e 65536=some ((n:Int),(a0:Int),e0)∧a0≤8*b.length∧n≤65536∧(e≠0→e0≠0)∧(e=0→e0=0→(Z0c b).drop a=cnt2 n++(Z0c b).drop a0):=by
  by_cases he:e=0
  ·subst he
   obtain⟨n,a0,e0,s1,s2,s3,s4⟩:=Z63 hb (m:=65536) (by omega) ha
   refine⟨n,a0,e0,s1,s2,s3,fun h=>absurd rfl h,fun _ h => ?_⟩
   rcases s4 with ⟨_,s4⟩ | ⟨s4,_⟩
   ·exact s4
   ·exact absurd h s4
  ·exact⟨0,a,e,Z70 he,ha,by omega,fun h=>h,fun h=>absurd h he⟩
 unfold Z0k.f
 rw[s1,sb]
 dsimp only
 rcases smp_tot_l0 hb ((n:Int),(a0:Int),e0) n s3 rfl n [] a0 e0 0 (by omega) (by omega) (by simp) s2 with ⟨a1,e1,r1,r2,r3⟩ | ⟨D,a1,e1,r1,r2,r3,r4,r5,r6⟩
 ·rw[r1,sb]
  exact⟨[],false,a1,e1,rfl,r2,fun h=>r3 (s4 h),by simp⟩
 ·rw[r1,sb]
  dsimp only
  rw[List.nil_append]
  have hf:∀ s∈D.flatten,Fits s.f1:=fun s hs=>by
   obtain⟨c,hc,hs⟩:=List.mem_flatten.1 hs
   exact((r4 c hc).k s hs).fits
  have hlen:∀ (D:List (List Z7)),(∀ c∈D,Chu c)→D.flatten.length≤32*D.length:=by
   intro D
   induction D with
   | nil=>simp
   | cons c D ih =>
    intro h
    have:=(h c (by simp)).cok.len
    have:=ih (fun x hx=>h x (by simp[hx]))
    simp only[List.flatten_cons,List.length_append,List.length_cons];omega
  have:=hlen D r4
  rw[ris_eq _ (by omega) hf,sb]
  refine⟨_,_,a1,e1,rfl,r2,fun h=>r3 (s4 h),fun hok=>⟨D,rfl,hok,r4,by omega,fun h1 h2 => ?_⟩⟩
  have h0:e0=0:=by
   by_cases h:e0=0
   ·exact h
   ·exact absurd h2 (r3 h)
  obtain⟨q1,q2⟩:=r6 h0 h2
  rw[s5 h1 h0,q2,q1,List.append_assoc]
theorem one_of {D:List (List Z7)} {l:List Z7} (h:l=D.flatten) (hD:∀ c∈D,Chu c) (h1:l.length=1):∃ s,l=[s]∧D=[[s]]∧SOk s∧cnt2 D.length++Z9g D=smpB s:=by
 obtain⟨s,rfl⟩:=List.length_eq_one_iff.1 h1
 have hd:=Zd1 (fun c hc=>(hD c hc).ne)
 rw[← h] at hd
 simp only[List.length_singleton] at hd
 cases D with
 | nil=>simp at h
 | cons c D =>
  cases D with
  | cons x D=>simp at hd
  | nil =>
   simp at h
   subst h
   have hc:=hD [s] (by simp)
   refine⟨s,rfl,rfl,⟨(hc.cok.ok s (by simp)).1,(hc.k s (by simp)).fits,(hc.cok.ok s (by simp)).2⟩,?_⟩
   simp[Z9g,smpB]
end Go.Proofs.YtinhldbfifpakaaGreat.PvGL2
