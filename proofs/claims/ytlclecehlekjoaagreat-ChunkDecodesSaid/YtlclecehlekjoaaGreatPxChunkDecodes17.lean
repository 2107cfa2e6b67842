import Derived.Test.YtlclecehlekjoaaGreatPxChunkDecodes16
set_option linter.unusedVariables false
set_option linter.unusedSimpArgs false
set_option maxRecDepth 10000
namespace Go.Proofs.YtlclecehlekjoaaGreat.PvGK
open Go Go.Pv Go.Pv.GS Go.IntKind
variable {b:List Int}
theorem Z98 {l:List Int} {i:Nat} {v:Int} (hl:∀ x∈l,U64 x) (hv:U64 v):∀ x∈l.set i v,U64 x:=fun x hx=>by
 rcases List.mem_or_eq_of_mem_set hx with h | rfl
 ·exact hl x h
 ·exact hv
theorem s1_tot (hb:Src b) (H:Zd) (L M:Z8) (t:Int×Int×Int) (P N:List Int) (hP:P.length≤1000000) (hN:N.length≤1000000) (la:Int) (o:List Zf) (i tm:Int) :
  ∀ (m:Nat) (was step:List Int) (a:Nat) (e:Int) (k:Nat),(2+P.length+N.length)-k≤m→was.length=2+P.length+N.length→step.length=2+P.length+N.length→(∀ x∈was,U64 x)→a≤8*b.length →
  ∃ (a':Nat) (e':Int) (w s:List Int),Zt.l1 b H L M t P N la o i tm (a:Int) e was step (k:Int)=some ((a':Int),e',w,s)∧a'≤8*b.length∧w.length=2+P.length+N.length∧s.length=2+P.length+N.length∧∀ x∈w,U64 x:=by
 intro m
 induction m with
 | zero =>
  intro was step a e k hm hw hs hu ha
  rw[Zt.l1,wide_eq hP hN,if_neg (by simp;omega)]
  exact⟨a,e,was,step,rfl,ha,hw,hs,hu⟩
 | succ m ih =>
  intro was step a e k hm hw hs hu ha
  by_cases hk:k<2+P.length+N.length
  case neg =>
   rw[Zt.l1,wide_eq hP hN,if_neg (by simp;omega)]
   exact⟨a,e,was,step,rfl,ha,hw,hs,hu⟩
  have aw:at? was (k:Int)=some (was[k]'(by omega)):=Z4h rfl (List.getElem?_eq_getElem _)
  have aS:at? step (k:Int)=some (step[k]'(by omega)):=Z4h rfl (List.getElem?_eq_getElem _)
  have aS2:∀ v,at? (step.set (Int.toNat (k:Int)) v) (k:Int)=some v:=fun v=>Z4h rfl (by rw[Int.toNat_natCast,List.getElem?_set_self (by omega)])
  rw[Zt.l1,wide_eq hP hN,if_pos (by simp;omega),Zc (n:=(k:Int)+1) (by omega) (by omega)]
  have nx:∀ (a1:Nat) (e1:Int) (w s:List Int),a1≤8*b.length→w.length=2+P.length+N.length→s.length=2+P.length+N.length→(∀ x∈w,U64 x)→∃ (a':Nat) (e':Int) (w' s':List Int),Zt.l1 b H L M t P N la o i tm (a1:Int) e1 w s ((k:Int)+1)=some ((a':Int),e',w',s')∧a'≤8*b.length∧w'.length=2+P.length+N.length∧s'.length=2+P.length+N.length∧∀ x∈w',U64 x:=by
   intro a1 e1 w s h1 h2 h3 h4
   have:=ih w s a1 e1 (k+1) (by omega) h2 h3 h4 h1
   rwa [show((k+1:Nat):Int)=(k:Int)+1 by omega] at this
  by_cases i0:i=0
  ·obtain⟨n,a1,e1,h1,h2,h3⟩:=count_tot hb ha e
   rw[if_pos (by simpa using i0),h1,sb,aw,sb,sb]
   dsimp only
   exact nx a1 e1 _ step h2 (by simpa using hw) hs (Z98 hu ⟨by omega,by omega⟩)
  rw[if_neg (by simpa using i0)]
  by_cases i1:i=1
  ·obtain⟨x,a1,e1,h1,h2,h3⟩:=Z9a     hb ha e
   rw[if_pos (by simpa using i1),h1,sb,aS,sb,aw,sb]
   dsimp only
   rw[aS2,sb,sb]
   dsimp only
   rw[sb]
   dsimp only
   exact nx a1 e1 _ _ h2 (by simpa using hw) (by simpa using hs) (Z98 hu (Z55 _))
  ·obtain⟨x,a1,e1,h1,h2,h3⟩:=Z9a     hb ha e
   rw[if_neg (by simpa using i1),aS,sb,h1,sb,aw,sb]
   dsimp only
   rw[aS2,sb,sb]
   dsimp only
   rw[sb]
   dsimp only
   exact nx a1 e1 _ _ h2 (by simpa using hw) (by simpa using hs) (Z98 hu (Z55 _))
theorem seqI_mem {x:Int}:∀ {n:Nat} {a:Int},x∈seqI a n→a≤x∧x<a+n
 | 0,a,h=>by simp[seqI] at h
 | n+1,a,h=>by
  rw[seqI] at h
  rcases List.mem_cons.1 h with rfl | h
  ·omega
  ·have:=seqI_mem h;omega
theorem idxs_bd {x:Int}:∀ (r:List Z15) (a:Int),(∀ s∈r,-3000000≤s.f0∧s.f0≤3000000∧0≤s.f1∧s.f1≤1000000)→x∈idxs r a→a-3000000*(r.length:Int)≤x∧x≤a+4000000*(r.length:Int)
 | [],a,_,h=>by simp[idxs] at h
 | s::r,a,hs,h=>by
  have q:=hs s (by simp)
  rw[idxs] at h
  simp only[List.length_cons]
  rcases List.mem_append.1 h with h | h
  ·have:=seqI_mem h;omega
  ·have:=idxs_bd r _ (fun s hs'=>hs s (by simp[hs'])) h;omega
theorem LOk.ind {L:Z8} (h:LOk L):∃ P,Zo.f L=some P∧P.length≤512∧∀ i∈P,I64 i:=by
 have:=h.first
 refine⟨_,ind_eq L h.sp (by omega) (by have:=h.len;omega),by rw[idxs_len];exact h.len,fun i hi => ?_⟩
 have:=idxs_bd L.f1 L.f0 h.sp.ok hi
 have:=h.sp.len
 omega
structure HOk (h:Zd):Prop where
 fits:Fits h
 pos:h.f6.length≤512
 neg:h.f7.length≤512
theorem HOk.zero:HOk (⟨0,0,0,0,0,0,[],[]⟩:Zd):=⟨⟨by decide,by decide,by decide,by decide,by decide,by decide,by simp,by simp⟩,by simp,by simp⟩
theorem smp_tot (hb:Src b) {L M:Z8} {P N:List Int} (iP:Zo.f L=some P) (iN:Zo.f M=some N) (lP:P.length≤512) (lN:N.length≤512) (bP:∀ i∈P,I64 i) (bN:∀ i∈N,I64 i) (H:Zd) (hH:I64 H.f0∧I64 H.f1∧I64 H.f2∧U64 H.f4) (t:Int×Int×Int) (ht:0≤t.1∧t.1≤31) :
  ∀ (m:Nat) (was step:List Int) (la gap:Int) (o:List Zf) (a:Nat) (e:Int) (i:Int),33-i≤m→i=(o.length:Int)→o.length≤32→was.length=2+P.length+N.length→step.length=2+P.length+N.length→(∀ x∈was,U64 x)→(∀ s∈o,HOk s.f1)→a≤8*b.length →
  ∃ (r:List Zf) (a':Nat) (e':Int),Zt.l0 b H L M t P N ((a:Int),e,was,step,la,gap,o,i)=some (r,(a':Int),e')∧a'≤8*b.length∧r.length≤32∧∀ s∈r,HOk s.f1:=by
 intro m
 induction m with
 | zero=>intro was step la gap o a e i hm hi ho;omega
 | succ m ih =>
  intro was step la gap o a e i hm hi ho hw hs hu hok ha
  rw[Zt.l0]
  dsimp only
  rw[Zc (n:=1+t.1) (by omega) (by omega)]
  by_cases c:i<1+t.1
  case neg=>rw[if_neg (by simpa using c),sb,if_neg (by simp)];exact⟨o,a,e,rfl,ha,ho,hok⟩
  rw[if_pos (by simpa using c),err_eq,sb,sb]
  by_cases he:e=0
  case neg=>rw[if_neg (by simpa using he)];exact⟨o,a,e,rfl,ha,ho,hok⟩
  rw[if_pos (by simpa using he)]
  have T:∃ (a1:Nat) (e1 tm:Int),((if(i==(0:Int))=true then((Zh.f b (a:Int) e 1099511627776)>>=fun t3202=>some (t3202.2.1,t3202.2.2,t3202.1)) else(((if(i==(1:Int))=true then((Zh.f b (a:Int) e 1099511627776)>>=fun t3207=>some (t3207.2.1,t3207.2.2,i64.wrap ((i64.wrap (la+(1:Int)))+t3207.1))) else((Z01.f b (a:Int) e)>>=fun t3211=>some (t3211.2.1,t3211.2.2,i64.wrap ((i64.wrap (la+gap))+t3211.1)))):Option (Int×Int×Int))>>=fun oo=>match oo with | (x3213,x3214,x3215)=>(some (x3213,x3214,x3215)))):Option (Int×Int×Int))=some ((a1:Int),e1,tm)∧a1≤8*b.length:=by
   by_cases i0:i=0
   ·obtain⟨n,a1,e1,h1,h2,h3⟩:=Z5e       hb ha e (m:=1099511627776) (by omega)
    rw[if_pos (by simpa using i0),show Zh.f b (a:Int) e 1099511627776=_ from h1,sb]
    exact⟨_,_,_,rfl,h2⟩
   rw[if_neg (by simpa using i0)]
   by_cases i1:i=1
   ·obtain⟨n,a1,e1,h1,h2,h3⟩:=Z5e       hb ha e (m:=1099511627776) (by omega)
    rw[if_pos (by simpa using i1),show Zh.f b (a:Int) e 1099511627776=_ from h1,sb,sb]
    exact⟨_,_,_,rfl,h2⟩
   ·obtain⟨x,a1,e1,h1,h2,h3⟩:=Z9a     hb ha e
    rw[if_neg (by simpa using i1),h1,sb,sb]
    exact⟨_,_,_,rfl,h2⟩
  obtain⟨a1,e1,tm,E1,g1⟩:=T
  rw[E1,sb]
  dsimp only
  obtain⟨a2,e2,w,s,E2,g2,g3,g4,g5⟩:=s1_tot hb H L M t P N (by omega) (by omega) la o i tm _ was step a1 e1 0 (Nat.le_refl _) hw hs hu g1
  rw[show Zt.l1 b H L M t P N la o i tm (a1:Int) e1 was step 0=_ from E2,sb]
  dsimp only
  have w2:i64.wrap ((2:Int)+(P.length:Int))=((2+P.length:Nat):Int):=by rw[Zc (by omega) (by omega)];omega
  have A0:at? w 0=some (w[0]'(by omega)):=Z4h (k:=0) rfl (List.getElem?_eq_getElem _)
  have A1:at? w 1=some (w[1]'(by omega)):=Z4h (k:=1) rfl (List.getElem?_eq_getElem _)
  have u0:=g5 _ (List.getElem_mem (l:=w) (n:=0) (by omega))
  have B1:=Za8 iP (by omega) (c:=(w.drop (Int.toNat (2:Int))).take (Int.toNat (((2+P.length:Nat):Int))-Int.toNat (2:Int))) (by
   rw[List.length_take,List.length_drop,show Int.toNat (2:Int)=2 from rfl,Int.toNat_natCast];omega)
  have B2:=Za8 iN (by omega) (c:=(w.drop (Int.toNat (((2+P.length:Nat):Int)))).take (Int.toNat (w.length:Int)-Int.toNat (((2+P.length:Nat):Int)))) (by
   rw[List.length_take,List.length_drop,Int.toNat_natCast,Int.toNat_natCast];omega)
  rw[A0,sb,A1,sb,w2,chkB (by omega),B1,sb,chkB (by omega),B2,sb]
  have l1:=bks_len P ((w.drop (Int.toNat (2:Int))).take (Int.toNat (((2+P.length:Nat):Int))-Int.toNat (2:Int)))
  have l2:=bks_len N ((w.drop (Int.toNat (((2+P.length:Nat):Int)))).take (Int.toNat (w.length:Int)-Int.toNat (((2+P.length:Nat):Int))))
  have m1:∀ y∈bks P ((w.drop (Int.toNat (2:Int))).take (Int.toNat (((2+P.length:Nat):Int))-Int.toNat (2:Int))),I64 y.f0∧U64 y.f1:=fun y hy=>by
   have q:=bks_mem _ _ y hy
   exact⟨bP _ q.1,g5 _ (List.mem_of_mem_drop (List.mem_of_mem_take q.2.1))⟩
  have m2:∀ y∈bks N ((w.drop (Int.toNat (((2+P.length:Nat):Int)))).take (Int.toNat (w.length:Int)-Int.toNat (((2+P.length:Nat):Int)))),I64 y.f0∧U64 y.f1:=fun y hy=>by
   have q:=bks_mem _ _ y hy
   exact⟨bN _ q.1,g5 _ (List.mem_of_mem_drop (List.mem_of_mem_take q.2.1))⟩
  generalize bks P ((w.drop (Int.toNat (2:Int))).take (Int.toNat (((2+P.length:Nat):Int))-Int.toNat (2:Int)))=Pb at *
  generalize bks N ((w.drop (Int.toNat (((2+P.length:Nat):Int)))).take (Int.toNat (w.length:Int)-Int.toNat (((2+P.length:Nat):Int))))=Nb at *
  obtain⟨r,e3,E3,k1,k2,k3,k4⟩:=make_spec (⟨H.f0,H.f1,H.f2,w[0]'(by omega),H.f4,i64.wrap (w[1]'(by omega)),Pb,Nb⟩:Zd) Pb Nb ⟨hH.1,hH.2.1,hH.2.2.1,u0,hH.2.2.2,Z6g _,m1,m2⟩ (by omega) (by omega) m1 m2
  have hr:HOk r:=by
   by_cases he3:e3=0
   ·obtain⟨fr,cr,_⟩:=k4 he3
    obtain⟨x,ex,hx⟩:=check_iff r fr (by omega) (by omega)
    rw[cr] at ex
    have v:=hx.1 (Option.some.inj ex).symm
    exact⟨fr,v.pos.len,v.neg.len⟩
   ·rw[k3 he3];exact HOk.zero
  rw[E3,sb,chkB (by simp;omega),Zc (n:=i+1) (by omega) (by omega)]
  exact ih w s tm _ (o++[⟨tm,r⟩]) a2 e2 (i+1) (by omega) (by simp;omega) (by simp;omega) g3 g4 g5 (fun s hs=>by
   rcases List.mem_append.1 hs with hs | hs
   ·exact hok s hs
   ·simp at hs;subst hs;exact hr) g2
theorem get_tot (hb:Src b) {a k:Nat} (hk:k≤64) (ha:a≤8*b.length) (e:Int):∃ (n a1:Nat) (e1:Int),Zj.f b (a:Int) e (k:Int)=some ((n:Int),(a1:Int),e1)∧a1≤8*b.length∧n<2 ^ k:=by
 have hp:0<2 ^ k:=Nat.pow_pos (by omega)
 by_cases he:e=0
 ·subst he
  rcases get_spec hb hk ha with ⟨h1,h2⟩ | ⟨h1,h2⟩
  ·refine⟨_,_,0,h2,h1,?_⟩
   have:=val_lt (((Z1g b).drop a).take k)
   rwa [List.length_take,List.length_drop,Z2o,Nat.min_eq_left (by omega)] at this
  ·exact⟨0,8*b.length,7,h2,Nat.le_refl _,hp⟩
 ·exact⟨0,a,e,get_bad hk he,ha,hp⟩
theorem bit_tot (hb:Src b) {a:Nat} (ha:a≤8*b.length):∃ (x:Bool) (a1:Nat) (e1:Int),Zv.f b (a:Int) 0=some (x,(a1:Int),e1)∧a1≤8*b.length:=by
 by_cases h:a<8*b.length
 ·have hlt:a<(Z1g    b).length:=by rw[Z2o       ];exact h
  exact⟨_,a+1,0,rbit_ok hb (List.getElem?_eq_getElem hlt),by omega⟩
 ·exact⟨false,a,7,rbit_end hb (by omega),ha⟩
theorem enc_tot (l:List Zf) (hl:l.length≤1000) (hk:∀ s∈l,HOk s.f1):∃ (x:List Int) (e:Int),Zu.f l=some (x,e)∧x.length<1000000000∧(e=0→COk l∧l≠[]∧Z0r.f l=some 0∧∃ f,Laid x f (Z5z l)):=by
 obtain⟨e,e1,e2,e3⟩:=chk_eq l (by omega) (fun s hs=>⟨(hk s hs).fits,by have:=(hk s hs).pos;omega,by have:=(hk s hs).neg;omega⟩)
 by_cases he:e=0
 ·subst he
  obtain⟨hc,hne⟩:=e3 rfl
  obtain⟨x,f,E,h⟩:=enc_eq hc hne (fun s hs=>(hk s hs).fits) e1
  have:=h.len
  have:=h.lt
  have:=Z7z hc (fun s hs=>(hk s hs).fits)
  exact⟨x,0,E,by omega,fun _=>⟨hc,hne,e1,f,h⟩⟩
 ·refine⟨[],e,?_,by simp,fun h=>absurd h he⟩
  unfold Zu.f
  rw[e1,sb,if_pos (by simpa using he)]
theorem dec_tot (hb:Src b):∃ (l:List Zf) (e:Int),Z2h.f b=some (l,e)∧((e=6∧l=[])∨(e=0∧COk l∧l≠[]∧(∀ s∈l,HOk s.f1)∧Z0r.f l=some 0∧∃ f,Laid b f (Z5z l))):=by
 have hbl:=hb.len
 unfold Z2h.f Z4a.f
 rw[sb]
 obtain⟨x,a1,e1,E1,g1⟩:=bit_tot hb (a:=0) (by omega)
 rw[show Zv.f b 0 0=_ from E1,sb]
 dsimp only
 obtain⟨K,EK,hK⟩:∃ K:Int,((if x=true then(some 1) else(some 0)):Option (Int))=some K∧I64 K:=by
  cases x
  ·exact⟨0,rfl,by omega⟩
  ·exact⟨1,rfl,by omega⟩
 rw[EK,sb]
 obtain⟨n,a2,e2,E2,g2,h2⟩:=get_tot hb (k:=4) (by omega) g1 e1
 rw[show Zj.f b (a1:Int) e1 4=_ from E2,sb]
 dsimp only
 obtain⟨z,a3,e3,E3,g3,h3⟩:=Z9a hb g2 e2
 rw[E3,sb]
 dsimp only
 by_cases c:z < -524288∨z>262144
 ·have:((if(decide (z<(-524288)))=true then(some true) else(some (decide (z>(262144:Int))))):Option (Bool))=some true:=by
   by_cases c1:z < -524288
   ·rw[if_pos (by simpa using c1)]
   ·rw[if_neg (by simpa using c1)];simp;omega
  rw[this,sb,if_pos rfl]
  exact⟨[],6,rfl,.inl ⟨rfl,rfl⟩⟩
 have:((if(decide (z<(-524288)))=true then(some true) else(some (decide (z>(262144:Int))))):Option (Bool))=some false:=by
  rw[if_neg (by simp;omega)];simp;omega
 rw[this,sb,if_neg (by simp)]
 obtain⟨L,a4,e4,E4,g4,h4⟩:=tk_tot hb g3 e3
 rw[E4,sb]
 dsimp only
 obtain⟨M,a5,e5,E5,g5,h5⟩:=tk_tot hb g4 e4
 rw[E5,sb]
 dsimp only
 obtain⟨P,iP,lP,bP⟩:=h4.ind
 obtain⟨N,iN,lN,bN⟩:=h5.ind
 obtain⟨q,a6,e6,E6,g6,h6⟩:=Z5e hb g5 e5 (m:=31) (by omega)
 have ES:∃ (r:List Zf) (a':Nat) (e':Int),Zt.f b (a5:Int) e5 (⟨K,i64.wrap ((i64.wrap (n:Int))+(-4)),z,0,0,0,[],[]⟩:Zd) L M=some (r,(a':Int),e')∧a'≤8*b.length∧r.length≤32∧∀ s∈r,HOk s.f1:=by
  unfold Zt.f
  rw[show Zh.f b (a5:Int) e5 31=_ from E6,sb,iP,sb,iN,sb,wide_eq (by omega) (by omega),chkB (by omega)]
  obtain⟨r,a',e',E,k1,k2,k3⟩:=smp_tot hb iP iN lP lN bP bN (⟨K,i64.wrap ((i64.wrap (n:Int))+(-4)),z,0,0,0,[],[]⟩:Zd) ⟨hK,Z6g _,by dsimp only;omega,by dsimp only;omega⟩ ((q:Int),(a6:Int),e6) (by dsimp only;omega) 33 (List.replicate (Int.toNat ((2+P.length+N.length:Nat):Int)) 0) (List.replicate (Int.toNat ((2+P.length+N.length:Nat):Int)) 0) 0 0 [] a6 e6 0 (by omega) rfl (by simp) (by rw[List.length_replicate,Int.toNat_natCast]) (by rw[List.length_replicate,Int.toNat_natCast]) (fun x hx=>by rw[List.eq_of_mem_replicate hx];omega) (by simp) g6
  dsimp only
  rw[E,sb]
  exact⟨r,a',e',rfl,k1,k2,k3⟩
 obtain⟨r,a7,e7,E7,g7,h7,k7⟩:=ES
 rw[E7,sb]
 dsimp only
 obtain⟨w,a8,e8,E8⟩:=end_tot hb g7 e7
 rw[E8,sb]
 dsimp only
 by_cases hw:w=0
 case neg=>rw[if_pos (by simpa using hw)];exact⟨[],6,rfl,.inl ⟨rfl,rfl⟩⟩
 rw[if_neg (by simpa using hw)]
 obtain⟨y,e9,E9,h9,k9⟩:=enc_tot r (by omega) k7
 rw[E9,sb]
 dsimp only
 by_cases he:e9=0
 case neg=>rw[if_pos (by simpa using he),sb,if_pos rfl];exact⟨[],6,rfl,.inl ⟨rfl,rfl⟩⟩
 obtain⟨q1,q2,q3,f,q4⟩:=k9 he
 rw[if_neg (by simpa using he),eqbytes y b h9,sb,sb]
 by_cases hyb:y=b
 ·rw[if_neg (by simp[hyb])]
  subst hyb
  exact⟨r,0,rfl,.inr ⟨rfl,q1,q2,k7,q3,f,q4⟩⟩
 ·rw[if_pos (by simp[hyb])];exact⟨[],6,rfl,.inl ⟨rfl,rfl⟩⟩
end Go.Proofs.YtlclecehlekjoaaGreat.PvGK
set_option linter.unusedVariables false
set_option linter.unusedSimpArgs false
set_option maxRecDepth 100000
namespace Go.Proofs.YtlclecehlekjoaaGreat.PvGK
open Go Go.Pv Go.Pv.GS Go.IntKind
theorem awake9:Z27.f=some true:=by cbv
end Go.Proofs.YtlclecehlekjoaaGreat.PvGK
set_option linter.unusedVariables false
set_option linter.unusedSimpArgs false
set_option maxRecDepth 10000
namespace Go.Proofs.YtlclecehlekjoaaGreat.PvGK
open Go Go.Pv Go.Pv.GS Go.IntKind
theorem Z9q (b:List Int) (hb:b.length≤140737488351232∧∀ y∈b,Rng 0 256 y):Z2n.f b=some true:=by
 unfold Z2n.f
 by_cases h:b.length>2000
 ·rw[if_pos (by simp;omega),awake9,sb]
 have hs:Src b:=⟨hb.2,by omega⟩
 rw[if_neg (by simp;omega)]
 obtain⟨l,e,E,hr⟩:=dec_tot hs
 rw[E,sb]
 dsimp only
 rcases hr with ⟨rfl,rfl⟩ | ⟨rfl,hc,hne,hk,hC,f,hL⟩
 ·rw[if_pos (by simp),awake9,sb,if_pos rfl,if_pos (by simp),sb];rfl
 ·obtain⟨y,f2,EY,hY⟩:=renc_eq hc hne (fun s hs=>(hk s hs).fits)
  have:=hL.unique hY
  subst this
  have h32:=hc.len
  obtain⟨e,e1,e2,e3⟩:=chk_eq l (by omega) (fun s hs=>⟨(hk s hs).fits,by have:=(hk s hs).pos;omega,by have:=(hk s hs).neg;omega⟩)
  rw[hC] at e1
  obtain rfl:=Option.some.inj e1
  rw[if_neg (by simp),awake9,sb,if_pos rfl,e2,sb,if_pos (by simp),EY,sb,sb]
  simp
end Go.Proofs.YtlclecehlekjoaaGreat.PvGK
