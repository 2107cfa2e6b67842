import Derived.Test.YtlclecehlekjoaaPxChunkTurns13
set_option linter.unusedVariables false
set_option linter.unusedSimpArgs false
set_option maxRecDepth 10000
namespace Go.Proofs.Ytlclecehlekjoaa.PvGE
open Go Go.Pv Go.Pv.GS Go.IntKind
variable {b:List Int}
theorem Z3j {p n:Nat} (hp:p≤1000000) (hn:n≤1000000):i64.wrap (i64.wrap ((2:Int)+(p:Int))+(n:Int))=((2+p+n:Nat):Int):=by
 rw[Zj (n:=(2:Int)+(p:Int)) (by omega) (by omega),Zj (by omega) (by omega)];omega
theorem s1_0 (hb:Src b) (H:Zp) (L M:Z7) (t:Int×Int×Int) (P N:List Int) (hP:P.length≤1000000) (hN:N.length≤1000000) (la:Int) (o:List Zh) (tm:Int) (step:List Int) (z:List Bool) :
  ∀ (sn pn sx:List Int) (a:Nat) (k:Int),pn.length+sn.length=2+P.length+N.length→sx.length=sn.length→k=(pn.length:Int)→(∀ n∈sn,U64 n)→a≤8*b.length→(Z04 b).drop a=row0 sn++z →
  ∃ a':Nat,Ze.l1 b H L M t P N la o 0 tm (a:Int) 0 (pn++sx) step k=some ((a':Int),0,pn++sn,step)∧a'≤8*b.length∧(Z04 b).drop a'=z:=by
 intro sn
 induction sn with
 | nil =>
  intro pn sx a k h1 h2 hk _ ha h
  have hsx:sx=[]:=List.length_eq_zero_iff.1 (by simpa using h2)
  subst hsx
  rw[Ze.l1,Z3j hP hN,if_neg (by simp at h1 ⊢;omega)]
  exact⟨a,rfl,ha,by simpa[row0] using h⟩
 | cons n sn ih =>
  intro pn sx a k h1 h2 hk hu ha h
  cases sx with
  | nil=>simp at h2
  | cons x sx =>
   simp only[List.length_cons] at h1 h2
   have hn:=hu n (by simp)
   rw[row0_cons,List.append_assoc] at h
   have c:=Z87 hb (n:=n.toNat) (by have:=hn.1;have:=hn.2;omega) ha h
   have l1:=congrArg List.length h
   simp only[List.length_drop,Z0l,List.length_append] at l1
   rw[Int.toNat_of_nonneg hn.1] at c
   rw[Ze.l1,Z3j hP hN,if_pos (by simp;omega),if_pos (by simp),c,sb,Z3r pn x sx hk,sb,sb]
   dsimp only
   rw[Z5k pn x n sx hk,Zj (n:=k+1) (by omega) (by omega)]
   obtain⟨a',e,g1,g2⟩:=ih (pn++[n]) sx (a+(cnt2 n.toNat).length) (k+1) (by simp;omega) (by omega) (by simp;omega) (fun m hm=>hu m (by simp[hm])) (by omega) (by rw[← List.drop_drop,h,List.drop_left])
   rw[List.append_assoc,List.singleton_append,List.append_assoc,List.singleton_append] at e
   exact⟨a',e,g1,g2⟩
theorem back1 {n w:Int} (hn:U64 n):u64.wrap (w+u64.wrap (i64.wrap (u64.wrap (n-w))))=n:=by
 have:=hn.1;have:=hn.2
 simp only[Z3u,Z3i];omega
theorem s1_1 (hb:Src b) (H:Zp) (L M:Z7) (t:Int×Int×Int) (P N:List Int) (hP:P.length≤1000000) (hN:N.length≤1000000) (la:Int) (o:List Zh) (tm:Int) (z:List Bool) :
  ∀ (sn pn sw ss ps:List Int) (a:Nat) (k:Int),pn.length+sn.length=2+P.length+N.length→sw.length=sn.length→ss.length=sn.length→ps.length=pn.length→k=(pn.length:Int)→(∀ n∈sn,U64 n)→a≤8*b.length→(Z04 b).drop a=row1 sn sw++z →
  ∃ a':Nat,Ze.l1 b H L M t P N la o 1 tm (a:Int) 0 (pn++sw) (ps++ss) k=some ((a':Int),0,pn++sn,ps++subR sn sw)∧a'≤8*b.length∧(Z04 b).drop a'=z:=by
 intro sn
 induction sn with
 | nil =>
  intro pn sw ss ps a k h1 h2 h3 h4 hk _ ha h
  have hsw:sw=[]:=List.length_eq_zero_iff.1 (by simpa using h2)
  have hss:ss=[]:=List.length_eq_zero_iff.1 (by simpa using h3)
  subst hsw;subst hss
  rw[Ze.l1,Z3j hP hN,if_neg (by simp at h1 ⊢;omega)]
  exact⟨a,by simp[subR],ha,by simpa[row1] using h⟩
 | cons n sn ih =>
  intro pn sw ss ps a k h1 h2 h3 h4 hk hu ha h
  cases sw with
  | nil=>simp at h2
  | cons w sw =>
   cases ss with
   | nil=>simp at h3
   | cons v ss =>
    simp only[List.length_cons] at h1 h2 h3
    have hn:=hu n (by simp)
    rw[Z5y,List.append_assoc] at h
    have c:=Z82 hb (Z54 (u64.wrap (n-w))) ha h
    have l1:=congrArg List.length h
    simp only[List.length_drop,Z0l,List.length_append] at l1
    have hst:u64.wrap (i64.wrap (u64.wrap (n-w)))=u64.wrap (n-w):=by simp only[Z3u,Z3i];omega
    have hbk:=back1 (w:=w) hn
    rw[hst] at hbk
    rw[Ze.l1,Z3j hP hN,if_pos (by simp;omega),if_neg (by simp),if_pos (by simp),c,sb,Z3r ps v ss (by omega),sb,Z3r pn w sw hk,sb]
    dsimp only
    rw[Z5k ps v _ ss (by omega),Z3r ps _ ss (by omega),sb,sb]
    dsimp only
    rw[sb]
    dsimp only
    rw[Z5k pn w _ sw hk,hst,hbk,Zj (n:=k+1) (by omega) (by omega)]
    obtain⟨a',e,g1,g2⟩:=ih (pn++[n]) sw ss (ps++[u64.wrap (n-w)]) (a+(intB (i64.wrap (u64.wrap (n-w)))).length) (k+1) (by simp;omega) (by omega) (by omega) (by simp;omega) (by simp;omega) (fun m hm=>hu m (by simp[hm])) (by omega) (by rw[← List.drop_drop,h,List.drop_left])
    rw[List.append_assoc,List.singleton_append,List.append_assoc,List.singleton_append,List.append_assoc,List.singleton_append,List.append_assoc,List.singleton_append] at e
    exact⟨a',by rw[Z44];exact e,g1,g2⟩
theorem s1_2 (hb:Src b) (H:Zp) (L M:Z7) (t:Int×Int×Int) (P N:List Int) (hP:P.length≤1000000) (hN:N.length≤1000000) (la:Int) (o:List Zh) (i tm:Int) (hi:2≤i) (z:List Bool) :
  ∀ (sn pn sw ss ps:List Int) (a:Nat) (k:Int),pn.length+sn.length=2+P.length+N.length→sw.length=sn.length→ss.length=sn.length→ps.length=pn.length→k=(pn.length:Int)→(∀ n∈sn,U64 n)→a≤8*b.length→(Z04 b).drop a=row1 (subR sn sw) ss++z →
  ∃ a':Nat,Ze.l1 b H L M t P N la o i tm (a:Int) 0 (pn++sw) (ps++ss) k=some ((a':Int),0,pn++sn,ps++subR sn sw)∧a'≤8*b.length∧(Z04 b).drop a'=z:=by
 intro sn
 induction sn with
 | nil =>
  intro pn sw ss ps a k h1 h2 h3 h4 hk _ ha h
  have hsw:sw=[]:=List.length_eq_zero_iff.1 (by simpa using h2)
  have hss:ss=[]:=List.length_eq_zero_iff.1 (by simpa using h3)
  subst hsw;subst hss
  rw[Ze.l1,Z3j hP hN,if_neg (by simp at h1 ⊢;omega)]
  exact⟨a,by simp[subR],ha,by simpa[row1,subR] using h⟩
 | cons n sn ih =>
  intro pn sw ss ps a k h1 h2 h3 h4 hk hu ha h
  cases sw with
  | nil=>simp at h2
  | cons w sw =>
   cases ss with
   | nil=>simp at h3
   | cons v ss =>
    simp only[List.length_cons] at h1 h2 h3
    have hn:=hu n (by simp)
    rw[Z44,Z5y,List.append_assoc] at h
    have c:=Z82 hb (Z54 (u64.wrap (u64.wrap (n-w)-v))) ha h
    have l1:=congrArg List.length h
    simp only[List.length_drop,Z0l,List.length_append] at l1
    have hst:u64.wrap (v+u64.wrap (i64.wrap (u64.wrap (u64.wrap (n-w)-v))))=u64.wrap (n-w):=by simp only[Z3u,Z3i];omega
    have hbk:u64.wrap (w+u64.wrap (n-w))=n:=by
     have:=hn.1;have:=hn.2
     simp only[Z3u];omega
    rw[Ze.l1,Z3j hP hN,if_pos (by simp;omega),if_neg (by simp;omega),if_neg (by simp;omega),Z3r ps v ss (by omega),sb,c,sb,Z3r pn w sw hk,sb]
    dsimp only
    rw[Z5k ps v _ ss (by omega),Z3r ps _ ss (by omega),sb,sb]
    dsimp only
    rw[sb]
    dsimp only
    rw[Z5k pn w _ sw hk,hst,hbk,Zj (n:=k+1) (by omega) (by omega)]
    obtain⟨a',e,g1,g2⟩:=ih (pn++[n]) sw ss (ps++[u64.wrap (n-w)]) (a+(intB (i64.wrap (u64.wrap (u64.wrap (n-w)-v)))).length) (k+1) (by simp;omega) (by omega) (by omega) (by simp;omega) (by simp;omega) (fun m hm=>hu m (by simp[hm])) (by omega) (by rw[← List.drop_drop,h,List.drop_left])
    rw[List.append_assoc,List.singleton_append,List.append_assoc,List.singleton_append,List.append_assoc,List.singleton_append,List.append_assoc,List.singleton_append] at e
    exact⟨a',by rw[Z44];exact e,g1,g2⟩
theorem make_id {h g:Zp} (v:Z2c h) (f:Fits h) (e0:g.f0=h.f0) (e1:g.f1=h.f1) (e2:g.f2=h.f2) (e3:g.f3=h.f3) (e5:g.f5=h.f5):Z0r.f g h.f6 h.f7=some (h,0):=by
 have m0:=v.pos.len
 have m1:=v.neg.len
 have ht:=v.total
 have t1:=tidy_id h.f6 (by omega) (fun y hy=>(f.pos y hy).2) v.pos.canon
 have t2:=tidy_id h.f7 (by omega) (fun y hy=>(f.neg y hy).2) v.neg.canon
 have t3:=total3 h.f6 h.f7 h.f3 (by omega) (by omega) (fun y hy=>(f.pos y hy).2) (fun y hy=>(f.neg y hy).2) f.zero
 rw[if_pos ht,← v.count] at t3
 unfold Z0r.f
 rw[t1,sb,t2,sb,if_neg (by simp),e3,t3,sb,if_neg (by simp),e0,e1,e2,e5]
 dsimp only
 rw[show Z0c.f (⟨h.f0,h.f1,h.f2,h.f3,h.f4,h.f5,h.f6,h.f7⟩:Zp)=_ from check_T h f v,sb,if_neg (by simp)]
theorem cut_p (h:Zp) (P N:List Int):((Z11 h P N).drop (Int.toNat (2:Int))).take (Int.toNat (((2+P.length:Nat):Int))-Int.toNat (2:Int))=P.map (tot h.f6):=by
 have e:(Z11 h P N).drop 2=P.map (tot h.f6)++N.map (tot h.f7):=by unfold Z11;simp
 rw[show Int.toNat (2:Int)=2 from rfl,e,Int.toNat_natCast,Nat.add_sub_cancel_left,List.take_left' (by simp)]
theorem cut_n (h:Zp) (P N:List Int):((Z11 h P N).drop (Int.toNat (((2+P.length:Nat):Int)))).take (Int.toNat (((Z11 h P N).length:Int))-Int.toNat (((2+P.length:Nat):Int)))=N.map (tot h.f7):=by
 have e:(Z11 h P N).drop (2+P.length)=N.map (tot h.f7):=by
  unfold Z11
  rw[List.drop_left' (by simp;omega)]
 rw[Int.toNat_natCast,Int.toNat_natCast,e,Z2o]
 exact List.take_of_length_le (by simp)
theorem smp_l0 (hb:Src b) {l:List Zh} (hc:COk l) (hF:∀ s∈l,Fits s.f1) (H:Zp) (hH:∀ s∈l,H.f0=s.f1.f0∧H.f1=s.f1.f1∧H.f2=s.f1.f2) (t:Int×Int×Int) (ht:t.1=(l.length:Int)-1) (z:List Bool) :
  ∀ (suf pre:List Zh) (q p:Option Zh) (was step:List Int) (la gap:Int) (a:Nat) (i:Int),l=pre++suf→i=(pre.length:Int)→Two pre q p→was.length=2+(allI 0 l).length+(allI 1 l).length→step.length=2+(allI 0 l).length+(allI 1 l).length →
  (∀ x,p=some x→was=Z11 x.f1 (allI 0 l) (allI 1 l)∧la=x.f0)→(∀ y x,q=some y→p=some x→step=subR (Z11 x.f1 (allI 0 l) (allI 1 l)) (Z11 y.f1 (allI 0 l) (allI 1 l))∧gap=x.f0-y.f0)→(p=none→la=0) →
  a≤8*b.length→(Z04 b).drop a=body (allI 0 l) (allI 1 l) q p suf++z →
  ∃ a':Nat,Ze.l0 b H (lay (allI 0 l)) (lay (allI 1 l)) t (allI 0 l) (allI 1 l) ((a:Int),0,was,step,la,gap,pre,i)=some (l,(a':Int),0)∧a'≤8*b.length∧(Z04 b).drop a'=z:=by
 obtain⟨iP,iN⟩:=hc.ids hF
 have lP:=hc.pos
 have lN:=hc.neg
 have h32:=hc.len
 intro suf
 induction suf with
 | nil =>
  intro pre q p was step la gap a i h1 hi h2 hw hs hp hq hn ha h
  rw[List.append_nil] at h1
  subst h1
  rw[Ze.l0]
  dsimp only
  rw[ht,Zj (by omega) (by omega),if_neg (by simp;omega),sb,if_neg (by simp)]
  exact⟨a,rfl,ha,by cases q<;>cases p<;>simpa[body] using h⟩
 | cons x suf ih =>
  intro pre q p was step la gap a i h1 hi h2 hw hs hp hq hn ha h
  have hlen:l.length=pre.length+(suf.length+1):=by rw[h1];simp
  have hx:=hc.ok x (by rw[h1];simp)
  have fx:=hF x (by rw[h1];simp)
  have hHx:=hH x (by rw[h1];simp)
  have hrl:=Z2o x.f1 (allI 0 l) (allI 1 l)
  have hru:=rows_u64 hx.1 fx (allI 0 l) (allI 1 l)
  have hup:=hc.up
  rw[h1] at hup
  have h2x:=h2.next x
  have hbkP:bks (allI 0 l) ((allI 0 l).map (tot x.f1.f6))=x.f1.f6:=bks_self iP.1 hx.1.pos.canon (fun y hy=>(allI_mem 0 y.f0 l).2 ⟨x,by rw[h1];simp,List.mem_map.2 ⟨y,hy,rfl⟩⟩)
  have hbkN:bks (allI 1 l) ((allI 1 l).map (tot x.f1.f7))=x.f1.f7:=bks_self iN.1 hx.1.neg.canon (fun y hy=>(allI_mem 1 y.f0 l).2 ⟨x,by rw[h1];simp,List.mem_map.2 ⟨y,hy,rfl⟩⟩)
  have hB1:=Z5a (Z4i iP.sm (by omega)) (by omega) (c:=(allI 0 l).map (tot x.f1.f6)) (by simp)
  have hB2:=Z5a (Z4i iN.sm (by omega)) (by omega) (c:=(allI 1 l).map (tot x.f1.f7)) (by simp)
  rw[hbkP] at hB1
  rw[hbkN] at hB2
  have hsum:i64.wrap (u64.wrap x.f1.f5)=x.f1.f5:=by
   have:=fx.sum.1;have:=fx.sum.2
   simp only[Z3u,Z3i];omega
  have w2:i64.wrap ((2:Int)+((allI 0 l).length:Int))=((2+(allI 0 l).length:Nat):Int):=by rw[Zj (by omega) (by omega)];omega
  have fin:∀ (a1:Nat) (st:List Int) (gp:Int),st.length=2+(allI 0 l).length+(allI 1 l).length→a1≤8*b.length→(∀ y x',p=some y→some x=some x'→st=subR (Z11 x'.f1 (allI 0 l) (allI 1 l)) (Z11 y.f1 (allI 0 l) (allI 1 l))∧gp=x'.f0-y.f0)→(Z04 b).drop a1=body (allI 0 l) (allI 1 l) p (some x) suf++z →
    ∃ a':Nat,((at? (Z11 x.f1 (allI 0 l) (allI 1 l)) 0)>>=fun b3364=>(at? (Z11 x.f1 (allI 0 l) (allI 1 l)) 1)>>=fun b3367=>(chk (0≤(2:Int)∧(2:Int)≤(i64.wrap ((2:Int)+((allI 0 l).length:Int)))∧(i64.wrap ((2:Int)+((allI 0 l).length:Int)))≤((Z11 x.f1 (allI 0 l) (allI 1 l)).length:Int)))>>=fun _=>(Z0i.f (lay (allI 0 l)) (((Z11 x.f1 (allI 0 l) (allI 1 l)).drop (Int.toNat (2:Int))).take (Int.toNat (i64.wrap ((2:Int)+((allI 0 l).length:Int)))-Int.toNat (2:Int))))>>=fun t3377=>(chk (0≤(i64.wrap ((2:Int)+((allI 0 l).length:Int)))∧(i64.wrap ((2:Int)+((allI 0 l).length:Int)))≤((Z11 x.f1 (allI 0 l) (allI 1 l)).length:Int)∧((Z11 x.f1 (allI 0 l) (allI 1 l)).length:Int)≤((Z11 x.f1 (allI 0 l) (allI 1 l)).length:Int)))>>=fun _=>(Z0i.f (lay (allI 1 l)) (((Z11 x.f1 (allI 0 l) (allI 1 l)).drop (Int.toNat (i64.wrap ((2:Int)+((allI 0 l).length:Int))))).take (Int.toNat ((Z11 x.f1 (allI 0 l) (allI 1 l)).length:Int)-Int.toNat (i64.wrap ((2:Int)+((allI 0 l).length:Int))))))>>=fun t3380=>(Z0r.f (⟨H.f0,H.f1,H.f2,b3364,H.f4,i64.wrap (b3367),t3377,t3380⟩:Zp) t3377 t3380)>>=fun t3386=>(chk ((pre.length+[(⟨x.f0,(t3386.1)⟩:Zh)].length)*104≤140737488355328))>>=fun _=>Ze.l0 b H (lay (allI 0 l)) (lay (allI 1 l)) t (allI 0 l) (allI 1 l) ((a1:Int),0,Z11 x.f1 (allI 0 l) (allI 1 l),st,x.f0,gp,pre++[(⟨x.f0,(t3386.1)⟩:Zh)],i64.wrap (i+(1:Int))))=some (l,(a':Int),0)∧a'≤8*b.length∧(Z04 b).drop a'=z:=by
   intro a1 st gp hst ha1 hsg hd
   have A0:at? (Z11 x.f1 (allI 0 l) (allI 1 l)) 0=some x.f1.f3:=rfl
   have A1:at? (Z11 x.f1 (allI 0 l) (allI 1 l)) 1=some (u64.wrap x.f1.f5):=rfl
   rw[A0,sb,A1,sb,w2,chkB (by rw[hrl];omega),cut_p,hB1,sb,chkB (by rw[hrl];omega),cut_n,hB2,sb,hsum]
   rw[make_id hx.1 fx (g:=⟨H.f0,H.f1,H.f2,x.f1.f3,H.f4,x.f1.f5,x.f1.f6,x.f1.f7⟩) hHx.1 hHx.2.1 hHx.2.2 rfl rfl,sb,chkB (by simp;omega),Zj (n:=i+1) (by omega) (by omega)]
   exact ih (pre++[x]) p (some x) _ st x.f0 gp a1 (i+1) (by simp[h1]) (by simp;omega) h2x hrl hst (fun y hy=>by cases hy;exact⟨rfl,rfl⟩) hsg (fun hy=>by cases hy) ha1 hd
  rw[Ze.l0]
  dsimp only
  rw[ht,Zj (n:=1+((l.length:Int)-1)) (by omega) (by omega),if_pos (by simp;omega),Z85,sb,sb,if_pos (by simp)]
  rcases h2 with ⟨rfl,rfl,rfl⟩ | ⟨y,rfl,rfl,rfl⟩ | ⟨P0,y,w,rfl,rfl,rfl⟩
  ·have hi0:i=0:=by simpa using hi
   subst hi0
   rw[body,List.append_assoc,List.append_assoc] at h
   have c:=Z3k hb (n:=x.f0.toNat) (m:=1099511627776) (by omega) (by omega) ha h
   have l1:=congrArg List.length h
   simp only[List.length_drop,Z0l,List.length_append] at l1
   rw[Int.toNat_of_nonneg hx.2.1] at c
   rw[if_pos (by simp),show Za.f b (a:Int) 0 1099511627776=_ from c,sb,sb]
   dsimp only
   obtain⟨a1,e1,g1,g2⟩:=s1_0 hb H (lay (allI 0 l)) (lay (allI 1 l)) t (allI 0 l) (allI 1 l) (by omega) (by omega) la [] x.f0 step (body (allI 0 l) (allI 1 l) none (some x) suf++z) (Z11 x.f1 (allI 0 l) (allI 1 l)) [] was (a+(cnt2 x.f0.toNat).length) 0 (by simpa using hrl) (by omega) rfl hru (by omega) (by rw[← List.drop_drop,h,List.drop_left])
   rw[List.nil_append,List.nil_append] at e1
   rw[e1,sb]
   exact fin a1 step _ hs g1 (fun y x' hy=>by cases hy) g2
  ·have hi1:i=1:=by simpa using hi
   subst hi1
   obtain⟨rfl,rfl⟩:=hp y rfl
   have hy:=hc.ok y (by rw[h1];simp)
   have hyx:y.f0<x.f0:=(List.pairwise_append.1 hup).2.2 y (by simp) x (by simp)
   have hyl:=Z2o y.f1 (allI 0 l) (allI 1 l)
   rw[body,List.append_assoc,List.append_assoc] at h
   have c:=Z3k hb (n:=(x.f0-y.f0-1).toNat) (m:=1099511627776) (by omega) (by omega) ha h
   have l1:=congrArg List.length h
   simp only[List.length_drop,Z0l,List.length_append] at l1
   have e0:i64.wrap (i64.wrap (y.f0+1)+((x.f0-y.f0-1).toNat:Int))=x.f0:=by
    rw[Zj (n:=y.f0+1) (by omega) (by omega),Zj (by omega) (by omega)];omega
   rw[if_neg (by simp),if_pos (by simp),show Za.f b (a:Int) 0 1099511627776=_ from c,sb]
   dsimp only
   rw[sb]
   dsimp only
   rw[sb]
   dsimp only
   rw[e0]
   obtain⟨a1,e1,g1,g2⟩:=s1_1 hb H (lay (allI 0 l)) (lay (allI 1 l)) t (allI 0 l) (allI 1 l) (by omega) (by omega) y.f0 [y] x.f0 (body (allI 0 l) (allI 1 l) (some y) (some x) suf++z) (Z11 x.f1 (allI 0 l) (allI 1 l)) [] (Z11 y.f1 (allI 0 l) (allI 1 l)) step [] (a+(cnt2 (x.f0-y.f0-1).toNat).length) 0 (by simpa using hrl) (by omega) (by omega) rfl rfl hru (by omega) (by rw[← List.drop_drop,h,List.drop_left])
   rw[List.nil_append,List.nil_append,List.nil_append,List.nil_append] at e1
   rw[e1,sb]
   dsimp only
   rw[Zj (n:=x.f0-y.f0) (by omega) (by omega)]
   exact fin a1 _ _ (by rw[Z5w (by omega)];exact hrl) g1 (fun y' x' hy hx=>by cases hy;cases hx;exact⟨rfl,rfl⟩) g2
  ·have hi2:2≤i:=by rw[hi];simp;omega
   obtain⟨rfl,rfl⟩:=hp w rfl
   obtain⟨rfl,rfl⟩:=hq y w rfl rfl
   have hw':=hc.ok w (by rw[h1];simp)
   have hy:=hc.ok y (by rw[h1];simp)
   have hwx:w.f0<x.f0:=(List.pairwise_append.1 hup).2.2 w (by simp) x (by simp)
   have hwl:=Z2o w.f1 (allI 0 l) (allI 1 l)
   have hyl:=Z2o y.f1 (allI 0 l) (allI 1 l)
   rw[body,List.append_assoc,List.append_assoc] at h
   have c:=Z82 hb (x:=x.f0-2*w.f0+y.f0) (by omega) ha h
   have l1:=congrArg List.length h
   simp only[List.length_drop,Z0l,List.length_append] at l1
   have e0:i64.wrap (i64.wrap (w.f0+(w.f0-y.f0))+(x.f0-2*w.f0+y.f0))=x.f0:=by
    rw[Zj (n:=w.f0+(w.f0-y.f0)) (by omega) (by omega),Zj (by omega) (by omega)];omega
   rw[if_neg (by simp;omega),if_neg (by simp;omega),c,sb]
   dsimp only
   rw[sb]
   dsimp only
   rw[sb]
   dsimp only
   rw[e0]
   obtain⟨a1,e1,g1,g2⟩:=s1_2 hb H (lay (allI 0 l)) (lay (allI 1 l)) t (allI 0 l) (allI 1 l) (by omega) (by omega) w.f0 (P0++[y,w]) i x.f0 hi2 (body (allI 0 l) (allI 1 l) (some w) (some x) suf++z) (Z11 x.f1 (allI 0 l) (allI 1 l)) [] (Z11 w.f1 (allI 0 l) (allI 1 l)) (subR (Z11 w.f1 (allI 0 l) (allI 1 l)) (Z11 y.f1 (allI 0 l) (allI 1 l))) [] (a+(intB (x.f0-2*w.f0+y.f0)).length) 0 (by simpa using hrl) (by omega) (by omega) rfl rfl hru (by omega) (by rw[← List.drop_drop,h,List.drop_left])
   rw[List.nil_append,List.nil_append,List.nil_append,List.nil_append] at e1
   rw[e1,sb]
   dsimp only
   rw[Zj (n:=x.f0-w.f0) (by omega) (by omega)]
   exact fin a1 _ _ (by rw[Z5w (by omega)];exact hrl) g1 (fun y' x' hy hx=>by cases hy;cases hx;exact⟨rfl,rfl⟩) g2
end Go.Proofs.Ytlclecehlekjoaa.PvGE
set_option linter.unusedVariables false
set_option linter.unusedSimpArgs false
namespace Go.Proofs.Ytlclecehlekjoaa.PvGE
open Go Go.Pv Go.Pv.GS Go.IntKind
theorem end_l0 {b:List Int} (hb:Src b):∀ (f a:Nat),a+f=8*b.length→(Z04 b).drop a=List.replicate f false→∃ a':Int,Zn.l0 b (a:Int) 0=some (a',0):=by
 intro f
 have hl:=hb.len
 induction f with
 | zero =>
  intro a ha h
  unfold Zn.l0 Z02.f
  rw[if_pos (by simp),sb,Zj (n:=(8:Int)*(b.length:Int)) (by omega) (by omega),Zj (by omega) (by omega),sb,if_neg (by simp;omega)]
  exact⟨_,rfl⟩
 | succ f ih =>
  intro a ha h
  have hx:(Z04 b)[a]? = some false:=by
   have:=congrArg (fun l=>l[0]?) h
   simpa[List.replicate_succ] using this
  have hn:(Z04 b).drop (a+1)=List.replicate f false:=by
   have:=congrArg List.tail h
   rw[List.tail_drop,List.replicate_succ,List.tail_cons] at this
   exact this
  unfold Zn.l0 Z02.f
  rw[if_pos (by simp),sb,Zj (n:=(8:Int)*(b.length:Int)) (by omega) (by omega),Zj (by omega) (by omega),sb,if_pos (by simp;omega),Z4s hb hx,sb]
  dsimp only
  rw[if_neg (by simp),sb]
  exact ih (a+1) (by omega) hn
theorem end_ok {b:List Int} (hb:Src b) {a f:Nat} (hf:f<8) (ha:a≤8*b.length) (h:(Z04 b).drop a=List.replicate f false):∃ a':Int,Zn.f b (a:Int) 0=some (0,a',0):=by
 have hl:=hb.len
 have l1:=congrArg List.length h
 rw[List.length_drop,Z0l,List.length_replicate] at l1
 obtain⟨a',e⟩:=end_l0 hb f a (by omega) h
 unfold Zn.f Z02.f
 rw[if_pos (by simp),sb,Zj (n:=(8:Int)*(b.length:Int)) (by omega) (by omega),Zj (by omega) (by omega),sb,if_neg (by simp;omega),sb,e,sb]
 exact⟨a',rfl⟩
theorem end_long {b:List Int} (hb:Src b) {a:Nat} (h:a+8≤8*b.length):Zn.f b (a:Int) 0=some (6,(a:Int),6):=by
 have hl:=hb.len
 unfold Zn.f Z02.f
 rw[if_pos (by simp),sb,Zj (n:=(8:Int)*(b.length:Int)) (by omega) (by omega),Zj (by omega) (by omega),sb,if_pos (by simp;omega),rfail0,sb,sb,Zn.l0,if_neg (by simp),sb,if_neg (by simp),sb]
theorem Z8z {b:List Int} (hb:Src b):∀ (m a:Nat) (e:Int),8*b.length-a≤m→a≤8*b.length→∃ a' e',Zn.l0 b (a:Int) e=some (a',e'):=by
 intro m
 have hl:=hb.len
 induction m with
 | zero =>
  intro a e h ha
  unfold Zn.l0 Z02.f
  by_cases he:e=0
  ·rw[if_pos (by simpa using he),sb,Zj (n:=(8:Int)*(b.length:Int)) (by omega) (by omega),Zj (by omega) (by omega),sb,if_neg (by simp;omega)];exact⟨_,_,rfl⟩
  ·rw[if_neg (by simpa using he),sb,if_neg (by simp)];exact⟨_,_,rfl⟩
 | succ m ih =>
  intro a e h ha
  unfold Zn.l0 Z02.f
  by_cases he:e=0
  case neg=>rw[if_neg (by simpa using he),sb,if_neg (by simp)];exact⟨_,_,rfl⟩
  subst he
  rw[if_pos (by simp),sb,Zj (n:=(8:Int)*(b.length:Int)) (by omega) (by omega),Zj (by omega) (by omega),sb]
  by_cases h0:a<8*b.length
  case neg=>rw[if_neg (by simp;omega)];exact⟨_,_,rfl⟩
  have hlt:a<(Z04 b).length:=by rw[Z0l];exact h0
  rw[if_pos (by simp;omega),Z4s hb (List.getElem?_eq_getElem hlt),sb]
  dsimp only
  obtain⟨x,hx⟩:∃ x,((if(Z04 b)[a]=true then((Zk.f b ((a+1:Nat):Int) 0 6)>>=fun t3461=>some t3461) else(some (0:Int))):Option (Int))=some x:=by
   split
   ·rw[rfail0,sb];exact⟨_,rfl⟩
   ·exact⟨_,rfl⟩
  rw[hx,sb]
  exact ih (a+1) x (by omega) (by omega)
theorem end_tot {b:List Int} (hb:Src b) {a:Nat} (ha:a≤8*b.length) (e:Int):∃ r a' e',Zn.f b (a:Int) e=some (r,a',e'):=by
 have hl:=hb.len
 unfold Zn.f Z02.f
 by_cases he:e=0
 ·subst he
  rw[if_pos (by simp),sb,Zj (n:=(8:Int)*(b.length:Int)) (by omega) (by omega),Zj (by omega) (by omega),sb]
  obtain⟨x,hx⟩:∃ x,((if(decide ((8:Int)*(b.length:Int)-(a:Int)≥(8:Int)))=true then((Zk.f b (a:Int) 0 6)>>=fun t3423=>some t3423) else(some (0:Int))):Option (Int))=some x:=by
   split
   ·rw[rfail0,sb];exact⟨_,rfl⟩
   ·exact⟨_,rfl⟩
  rw[hx,sb]
  obtain⟨a',e',h⟩:=Z8z hb _ a x (Nat.le_refl _) ha
  rw[h,sb];exact⟨_,_,_,rfl⟩
 ·rw[if_neg (by simpa using he),sb,if_neg (by simp),sb]
  obtain⟨a',e',h⟩:=Z8z hb _ a e (Nat.le_refl _) ha
  rw[h,sb];exact⟨_,_,_,rfl⟩
end Go.Proofs.Ytlclecehlekjoaa.PvGE
set_option linter.unusedVariables false
set_option linter.unusedSimpArgs false
set_option maxRecDepth 10000
namespace Go.Proofs.Ytlclecehlekjoaa.PvGE
open Go Go.Pv Go.Pv.GS Go.IntKind
theorem eqloop {α:Type} [DecidableEq α] (a b:List α) (hl:a.length=b.length) (ha:a.length<1000000000) (ne:α→α→Bool) (hne:∀ x y,ne x y = !decide (x=y)) (F:Int→Option (Bool ⊕ Unit))
  (hF:∀ i,F i=if(decide (i<(a.length:Int)))=true then((at? a i)>>=fun x=>(at? b i)>>=fun y=>if ne x y=true then(some (.inl false)) else F (i64.wrap (i+(1:Int)))) else(some (.inr ()))) :
  ∀ (sa pa sb' pb:List α) (i:Int),a=pa++sa→b=pb++sb'→pa.length=pb.length→i=(pa.length:Int)→F i=some (if sa=sb' then .inr () else .inl false):=by
 intro sa
 induction sa with
 | nil =>
  intro pa sb' pb i h1 h2 h3 hi
  have e:sb'=[]:=by
   have l1:=congrArg List.length h1
   have l2:=congrArg List.length h2
   simp only[List.length_append,List.length_nil] at l1 l2
   exact List.length_eq_zero_iff.1 (by omega)
  rw[hF,if_neg (by rw[h1];simp[hi]),e,if_pos rfl]
 | cons x sa ih =>
  intro pa sb' pb i h1 h2 h3 hi
  have l1:=congrArg List.length h1
  have l2:=congrArg List.length h2
  simp only[List.length_append,List.length_cons] at l1 l2
  cases sb' with
  | nil=>simp only[List.length_nil] at l2;omega
  | cons y sb' =>
   rw[hF,if_pos (by simp;omega),Z1n h1 hi,sb,Z1n h2 (by omega),sb,hne,Zj (by omega) (by omega)]
   by_cases c:x=y
   ·subst c
    rw[if_neg (by simp),ih (pa++[x]) sb' (pb++[x]) (i+1) (by simp[h1]) (by simp[h2]) (by simp[h3]) (by simp;omega)]
    by_cases c2:sa=sb'
    ·rw[if_pos c2,if_pos (by rw[c2])]
    ·rw[if_neg c2,if_neg (by simp[c2])]
   ·rw[if_pos (by simp[c]),if_neg (by simp[c])]
theorem bkt_ne (x y:Z2):(!((x.f0==y.f0)&&((x.f1==y.f1)&&true))) = !decide (x=y):=by
 obtain⟨a,b⟩:=x;obtain⟨c,d⟩:=y
 by_cases h1:a=c<;>by_cases h2:b=d<;>simp[h1,h2]
theorem rsame_eq (a b:List Z2) (ha:a.length<1000000000):Z1o.f a b=some (decide (a=b)):=by
 unfold Z1o.f
 by_cases hl:a.length=b.length
 ·have L:=eqloop a b hl ha (fun x y => !((x.f0==y.f0)&&((x.f1==y.f1)&&true))) bkt_ne (       Z1o.l0 a b) (fun i=>by rw[       Z1o.l0]) a [] b [] 0 rfl rfl rfl rfl
  rw[if_neg (by simp;omega),L,sb]
  by_cases c:a=b
  ·rw[if_pos c,decide_eq_true c]
  ·rw[if_neg c,decide_eq_false c]
 ·rw[if_pos (by simp;omega),decide_eq_false (fun h=>hl (by rw[h]))]
theorem rSame_eq (a b:Zp) (h6:a.f6.length<1000000000) (h7:a.f7.length<1000000000):Z31.f a b=some (decide (a=b)):=by
 unfold Z31.f
 rw[rsame_eq _ _ h6,rsame_eq _ _ h7]
 obtain⟨a0,a1,a2,a3,a4,a5,a6,a7⟩:=a
 obtain⟨b0,b1,b2,b3,b4,b5,b6,b7⟩:=b
 simp only[sb]
 by_cases c0:a0=b0
 case neg=>rw[if_neg (by simpa using c0),sb,decide_eq_false (by simp[c0])]
 by_cases c1:a1=b1
 case neg=>rw[if_pos (by simpa using c0),if_neg (by simpa using c1),sb,decide_eq_false (by simp[c1])]
 by_cases c2:a2=b2
 case neg=>rw[if_pos (by simpa using c0),if_pos (by simpa using c1),if_neg (by simpa using c2),sb,decide_eq_false (by simp[c2])]
 by_cases c3:a3=b3
 case neg=>rw[if_pos (by simpa using c0),if_pos (by simpa using c1),if_pos (by simpa using c2),if_neg (by simpa using c3),sb,decide_eq_false (by simp[c3])]
 by_cases c4:a4=b4
 case neg=>rw[if_pos (by simpa using c0),if_pos (by simpa using c1),if_pos (by simpa using c2),if_pos (by simpa using c3),if_neg (by simpa using c4),sb,decide_eq_false (by simp[c4])]
 by_cases c5:a5=b5
 case neg=>rw[if_pos (by simpa using c0),if_pos (by simpa using c1),if_pos (by simpa using c2),if_pos (by simpa using c3),if_pos (by simpa using c4),if_neg (by simpa using c5),sb,decide_eq_false (by simp[c5])]
 rw[if_pos (by simpa using c0),if_pos (by simpa using c1),if_pos (by simpa using c2),if_pos (by simpa using c3),if_pos (by simpa using c4),if_pos (by simpa using c5)]
 by_cases c6:a6=b6
 case neg=>rw[if_neg (by simpa using c6),sb,decide_eq_false (by simp[c6])]
 by_cases c7:a7=b7
 case neg=>rw[if_pos (by simpa using c6),decide_eq_false c7,sb,decide_eq_false (by simp[c7])]
 rw[if_pos (by simpa using c6),decide_eq_true c7,sb,decide_eq_true (by simp[c0,c1,c2,c3,c4,c5,c6,c7])]
theorem smp_l0' (a b:List Zh) (hl:a.length=b.length) (ha:a.length<1000000000) (hs:∀ s∈a,s.f1.f6.length<1000000000∧s.f1.f7.length<1000000000) :
  ∀ (sa pa sb' pb:List Zh) (i:Int),a=pa++sa→b=pb++sb'→pa.length=pb.length→i=(pa.length:Int)→Z1b.l0 a b i=some (if sa=sb' then .inr () else .inl false):=by
 intro sa
 induction sa with
 | nil =>
  intro pa sb' pb i h1 h2 h3 hi
  have e:sb'=[]:=by
   have l1:=congrArg List.length h1
   have l2:=congrArg List.length h2
   simp only[List.length_append,List.length_nil] at l1 l2
   exact List.length_eq_zero_iff.1 (by omega)
  rw[Z1b.l0,if_neg (by rw[h1];simp[hi]),e,if_pos rfl]
 | cons x sa ih =>
  intro pa sb' pb i h1 h2 h3 hi
  have l1:=congrArg List.length h1
  have l2:=congrArg List.length h2
  simp only[List.length_append,List.length_cons] at l1 l2
  have hx:=hs x (by rw[h1];simp)
  cases sb' with
  | nil=>simp only[List.length_nil] at l2;omega
  | cons y sb' =>
   rw[Z1b.l0,if_pos (by simp;omega),Z1n h1 hi,sb,Z1n h2 (by omega),sb,rSame_eq _ _ hx.1 hx.2,sb,Zj (by omega) (by omega)]
   have e:((if(x.f0 != y.f0)=true then(some true) else(some (!decide (x.f1=y.f1)))):Option Bool)=some (!decide (x=y)):=by
    obtain⟨a,b⟩:=x;obtain⟨c,d⟩:=y
    by_cases h1:a=c<;>by_cases h2:b=d<;>simp[h1,h2]
   rw[e,sb]
   by_cases c:x=y
   ·subst c
    rw[if_neg (by simp),ih (pa++[x]) sb' (pb++[x]) (i+1) (by simp[h1]) (by simp[h2]) (by simp[h3]) (by simp;omega)]
    by_cases c2:sa=sb'
    ·rw[if_pos c2,if_pos (by rw[c2])]
    ·rw[if_neg c2,if_neg (by simp[c2])]
   ·rw[if_pos (by simp[c]),if_neg (by simp[c])]
theorem same9_eq (a b:List Zh) (ha:a.length<1000000000) (hs:∀ s∈a,s.f1.f6.length<1000000000∧s.f1.f7.length<1000000000):Z1b.f a b=some (decide (a=b)):=by
 unfold Z1b.f
 by_cases hl:a.length=b.length
 ·rw[if_neg (by simp;omega),smp_l0' a b hl ha hs a [] b [] 0 rfl rfl rfl rfl,sb]
  by_cases c:a=b
  ·rw[if_pos c,decide_eq_true c]
  ·rw[if_neg c,decide_eq_false c]
 ·rw[if_pos (by simp;omega),decide_eq_false (fun h=>hl (by rw[h]))]
theorem byte_ne (x y:Int):(x != y) = !decide (x=y):=by
 by_cases h:x=y<;>simp[h]
theorem eqbytes (a b:List Int) (ha:a.length<1000000000):Z0b.f a b=some (decide (a=b)):=by
 unfold Z0b.f
 by_cases hl:a.length=b.length
 ·have L:=eqloop a b hl ha (fun x y=>x != y) byte_ne (                Z0b.l0 a b) (fun i=>by rw[                Z0b.l0]) a [] b [] 0 rfl rfl rfl rfl
  rw[if_neg (by simp;omega),L,sb]
  by_cases c:a=b
  ·rw[if_pos c,decide_eq_true c]
  ·rw[if_neg c,decide_eq_false c]
 ·rw[if_pos (by simp;omega),decide_eq_false (fun h=>hl (by rw[h]))]
end Go.Proofs.Ytlclecehlekjoaa.PvGE
set_option linter.unusedVariables false
set_option linter.unusedSimpArgs false
set_option maxRecDepth 10000
namespace Go.Proofs.Ytlclecehlekjoaa.PvGE
open Go Go.Pv Go.Pv.GS Go.IntKind
variable {b:List Int}
theorem Z7w {l:List Int} {i:Nat} {v:Int} (hl:∀ x∈l,U64 x) (hv:U64 v):∀ x∈l.set i v,U64 x:=fun x hx=>by
 rcases List.mem_or_eq_of_mem_set hx with h | rfl
 ·exact hl x h
 ·exact hv
theorem s1_tot (hb:Src b) (H:Zp) (L M:Z7) (t:Int×Int×Int) (P N:List Int) (hP:P.length≤1000000) (hN:N.length≤1000000) (la:Int) (o:List Zh) (i tm:Int) :
  ∀ (m:Nat) (was step:List Int) (a:Nat) (e:Int) (k:Nat),(2+P.length+N.length)-k≤m→was.length=2+P.length+N.length→step.length=2+P.length+N.length→(∀ x∈was,U64 x)→a≤8*b.length →
  ∃ (a':Nat) (e':Int) (w s:List Int),Ze.l1 b H L M t P N la o i tm (a:Int) e was step (k:Int)=some ((a':Int),e',w,s)∧a'≤8*b.length∧w.length=2+P.length+N.length∧s.length=2+P.length+N.length∧∀ x∈w,U64 x:=by
 intro m
 induction m with
 | zero =>
  intro was step a e k hm hw hs hu ha
  rw[Ze.l1,Z3j hP hN,if_neg (by simp;omega)]
  exact⟨a,e,was,step,rfl,ha,hw,hs,hu⟩
 | succ m ih =>
  intro was step a e k hm hw hs hu ha
  by_cases hk:k<2+P.length+N.length
  case neg =>
   rw[Ze.l1,Z3j hP hN,if_neg (by simp;omega)]
   exact⟨a,e,was,step,rfl,ha,hw,hs,hu⟩
  have aw:at? was (k:Int)=some (was[k]'(by omega)):=Z3d rfl (List.getElem?_eq_getElem _)
  have aS:at? step (k:Int)=some (step[k]'(by omega)):=Z3d rfl (List.getElem?_eq_getElem _)
  have aS2:∀ v,at? (step.set (Int.toNat (k:Int)) v) (k:Int)=some v:=fun v=>Z3d rfl (by rw[Int.toNat_natCast,List.getElem?_set_self (by omega)])
  rw[Ze.l1,Z3j hP hN,if_pos (by simp;omega),Zj (n:=(k:Int)+1) (by omega) (by omega)]
  have nx:∀ (a1:Nat) (e1:Int) (w s:List Int),a1≤8*b.length→w.length=2+P.length+N.length→s.length=2+P.length+N.length→(∀ x∈w,U64 x)→∃ (a':Nat) (e':Int) (w' s':List Int),Ze.l1 b H L M t P N la o i tm (a1:Int) e1 w s ((k:Int)+1)=some ((a':Int),e',w',s')∧a'≤8*b.length∧w'.length=2+P.length+N.length∧s'.length=2+P.length+N.length∧∀ x∈w',U64 x:=by
   intro a1 e1 w s h1 h2 h3 h4
   have:=ih w s a1 e1 (k+1) (by omega) h2 h3 h4 h1
   rwa [show((k+1:Nat):Int)=(k:Int)+1 by omega] at this
  by_cases i0:i=0
  ·obtain⟨n,a1,e1,h1,h2,h3⟩:=count_tot hb ha e
   rw[if_pos (by simpa using i0),h1,sb,aw,sb,sb]
   dsimp only
   exact nx a1 e1 _ step h2 (by simpa using hw) hs (Z7w hu ⟨by omega,by omega⟩)
  rw[if_neg (by simpa using i0)]
  by_cases i1:i=1
  ·obtain⟨x,a1,e1,h1,h2,h3⟩:=Z81     hb ha e
   rw[if_pos (by simpa using i1),h1,sb,aS,sb,aw,sb]
   dsimp only
   rw[aS2,sb,sb]
   dsimp only
   rw[sb]
   dsimp only
   exact nx a1 e1 _ _ h2 (by simpa using hw) (by simpa using hs) (Z7w hu (Z3v _))
  ·obtain⟨x,a1,e1,h1,h2,h3⟩:=Z81     hb ha e
   rw[if_neg (by simpa using i1),aS,sb,h1,sb,aw,sb]
   dsimp only
   rw[aS2,sb,sb]
   dsimp only
   rw[sb]
   dsimp only
   exact nx a1 e1 _ _ h2 (by simpa using hw) (by simpa using hs) (Z7w hu (Z3v _))
theorem seqI_mem {x:Int}:∀ {n:Nat} {a:Int},x∈seqI a n→a≤x∧x<a+n
 | 0,a,h=>by simp[seqI] at h
 | n+1,a,h=>by
  rw[seqI] at h
  rcases List.mem_cons.1 h with rfl | h
  ·omega
  ·have:=seqI_mem h;omega
theorem idxs_bd {x:Int}:∀ (r:List Z0y) (a:Int),(∀ s∈r,-3000000≤s.f0∧s.f0≤3000000∧0≤s.f1∧s.f1≤1000000)→x∈idxs r a→a-3000000*(r.length:Int)≤x∧x≤a+4000000*(r.length:Int)
 | [],a,_,h=>by simp[idxs] at h
 | s::r,a,hs,h=>by
  have q:=hs s (by simp)
  rw[idxs] at h
  simp only[List.length_cons]
  rcases List.mem_append.1 h with h | h
  ·have:=seqI_mem h;omega
  ·have:=idxs_bd r _ (fun s hs'=>hs s (by simp[hs'])) h;omega
theorem LOk.ind {L:Z7} (h:LOk L):∃ P,Zl.f L=some P∧P.length≤512∧∀ i∈P,I64 i:=by
 have:=h.first
 refine⟨_,ind_eq L h.sp (by omega) (by have:=h.len;omega),by rw[idxs_len];exact h.len,fun i hi => ?_⟩
 have:=idxs_bd L.f1 L.f0 h.sp.ok hi
 have:=h.sp.len
 omega
structure HOk (h:Zp):Prop where
 fits:Fits h
 pos:h.f6.length≤512
 neg:h.f7.length≤512
theorem HOk.zero:HOk (⟨0,0,0,0,0,0,[],[]⟩:Zp):=⟨⟨by decide,by decide,by decide,by decide,by decide,by decide,by simp,by simp⟩,by simp,by simp⟩
theorem smp_tot (hb:Src b) {L M:Z7} {P N:List Int} (iP:Zl.f L=some P) (iN:Zl.f M=some N) (lP:P.length≤512) (lN:N.length≤512) (bP:∀ i∈P,I64 i) (bN:∀ i∈N,I64 i) (H:Zp) (hH:I64 H.f0∧I64 H.f1∧I64 H.f2∧U64 H.f4) (t:Int×Int×Int) (ht:0≤t.1∧t.1≤31) :
  ∀ (m:Nat) (was step:List Int) (la gap:Int) (o:List Zh) (a:Nat) (e:Int) (i:Int),33-i≤m→i=(o.length:Int)→o.length≤32→was.length=2+P.length+N.length→step.length=2+P.length+N.length→(∀ x∈was,U64 x)→(∀ s∈o,HOk s.f1)→a≤8*b.length →
  ∃ (r:List Zh) (a':Nat) (e':Int),Ze.l0 b H L M t P N ((a:Int),e,was,step,la,gap,o,i)=some (r,(a':Int),e')∧a'≤8*b.length∧r.length≤32∧∀ s∈r,HOk s.f1:=by
 intro m
 induction m with
 | zero=>intro was step la gap o a e i hm hi ho;omega
 | succ m ih =>
  intro was step la gap o a e i hm hi ho hw hs hu hok ha
  rw[Ze.l0]
  dsimp only
  rw[Zj (n:=1+t.1) (by omega) (by omega)]
  by_cases c:i<1+t.1
  case neg=>rw[if_neg (by simpa using c),sb,if_neg (by simp)];exact⟨o,a,e,rfl,ha,ho,hok⟩
  rw[if_pos (by simpa using c),Z85,sb,sb]
  by_cases he:e=0
  case neg=>rw[if_neg (by simpa using he)];exact⟨o,a,e,rfl,ha,ho,hok⟩
  rw[if_pos (by simpa using he)]
  have T:∃ (a1:Nat) (e1 tm:Int),((if(i==(0:Int))=true then((Za.f b (a:Int) e 1099511627776)>>=fun t3202=>some (t3202.2.1,t3202.2.2,t3202.1)) else(((if(i==(1:Int))=true then((Za.f b (a:Int) e 1099511627776)>>=fun t3207=>some (t3207.2.1,t3207.2.2,i64.wrap ((i64.wrap (la+(1:Int)))+t3207.1))) else((Zs.f b (a:Int) e)>>=fun t3211=>some (t3211.2.1,t3211.2.2,i64.wrap ((i64.wrap (la+gap))+t3211.1)))):Option (Int×Int×Int))>>=fun oo=>match oo with | (x3213,x3214,x3215)=>(some (x3213,x3214,x3215)))):Option (Int×Int×Int))=some ((a1:Int),e1,tm)∧a1≤8*b.length:=by
   by_cases i0:i=0
   ·obtain⟨n,a1,e1,h1,h2,h3⟩:=Z45       hb ha e (m:=1099511627776) (by omega)
    rw[if_pos (by simpa using i0),show Za.f b (a:Int) e 1099511627776=_ from h1,sb]
    exact⟨_,_,_,rfl,h2⟩
   rw[if_neg (by simpa using i0)]
   by_cases i1:i=1
   ·obtain⟨n,a1,e1,h1,h2,h3⟩:=Z45       hb ha e (m:=1099511627776) (by omega)
    rw[if_pos (by simpa using i1),show Za.f b (a:Int) e 1099511627776=_ from h1,sb,sb]
    exact⟨_,_,_,rfl,h2⟩
   ·obtain⟨x,a1,e1,h1,h2,h3⟩:=Z81     hb ha e
    rw[if_neg (by simpa using i1),h1,sb,sb]
    exact⟨_,_,_,rfl,h2⟩
  obtain⟨a1,e1,tm,E1,g1⟩:=T
  rw[E1,sb]
  dsimp only
  obtain⟨a2,e2,w,s,E2,g2,g3,g4,g5⟩:=s1_tot hb H L M t P N (by omega) (by omega) la o i tm _ was step a1 e1 0 (Nat.le_refl _) hw hs hu g1
  rw[show Ze.l1 b H L M t P N la o i tm (a1:Int) e1 was step 0=_ from E2,sb]
  dsimp only
  have w2:i64.wrap ((2:Int)+(P.length:Int))=((2+P.length:Nat):Int):=by rw[Zj (by omega) (by omega)];omega
  have A0:at? w 0=some (w[0]'(by omega)):=Z3d (k:=0) rfl (List.getElem?_eq_getElem _)
  have A1:at? w 1=some (w[1]'(by omega)):=Z3d (k:=1) rfl (List.getElem?_eq_getElem _)
  have u0:=g5 _ (List.getElem_mem (l:=w) (n:=0) (by omega))
  have B1:=Z5a iP (by omega) (c:=(w.drop (Int.toNat (2:Int))).take (Int.toNat (((2+P.length:Nat):Int))-Int.toNat (2:Int))) (by
   rw[List.length_take,List.length_drop,show Int.toNat (2:Int)=2 from rfl,Int.toNat_natCast];omega)
  have B2:=Z5a iN (by omega) (c:=(w.drop (Int.toNat (((2+P.length:Nat):Int)))).take (Int.toNat (w.length:Int)-Int.toNat (((2+P.length:Nat):Int)))) (by
   rw[List.length_take,List.length_drop,Int.toNat_natCast,Int.toNat_natCast];omega)
  rw[A0,sb,A1,sb,w2,chkB (by omega),B1,sb,chkB (by omega),B2,sb]
  have l1:=bks_len P ((w.drop (Int.toNat (2:Int))).take (Int.toNat (((2+P.length:Nat):Int))-Int.toNat (2:Int)))
  have l2:=bks_len N ((w.drop (Int.toNat (((2+P.length:Nat):Int)))).take (Int.toNat (w.length:Int)-Int.toNat (((2+P.length:Nat):Int))))
  have m1:∀ y∈bks P ((w.drop (Int.toNat (2:Int))).take (Int.toNat (((2+P.length:Nat):Int))-Int.toNat (2:Int))),I64 y.f0∧U64 y.f1:=fun y hy=>by
   have q:=Z8c _ _ y hy
   exact⟨bP _ q.1,g5 _ (List.mem_of_mem_drop (List.mem_of_mem_take q.2.1))⟩
  have m2:∀ y∈bks N ((w.drop (Int.toNat (((2+P.length:Nat):Int)))).take (Int.toNat (w.length:Int)-Int.toNat (((2+P.length:Nat):Int)))),I64 y.f0∧U64 y.f1:=fun y hy=>by
   have q:=Z8c _ _ y hy
   exact⟨bN _ q.1,g5 _ (List.mem_of_mem_drop (List.mem_of_mem_take q.2.1))⟩
  generalize bks P ((w.drop (Int.toNat (2:Int))).take (Int.toNat (((2+P.length:Nat):Int))-Int.toNat (2:Int)))=Pb at *
  generalize bks N ((w.drop (Int.toNat (((2+P.length:Nat):Int)))).take (Int.toNat (w.length:Int)-Int.toNat (((2+P.length:Nat):Int))))=Nb at *
  obtain⟨r,e3,E3,k1,k2,k3,k4⟩:=make_spec (⟨H.f0,H.f1,H.f2,w[0]'(by omega),H.f4,i64.wrap (w[1]'(by omega)),Pb,Nb⟩:Zp) Pb Nb ⟨hH.1,hH.2.1,hH.2.2.1,u0,hH.2.2.2,Z54 _,m1,m2⟩ (by omega) (by omega) m1 m2
  have hr:HOk r:=by
   by_cases he3:e3=0
   ·obtain⟨fr,cr,_⟩:=k4 he3
    obtain⟨x,ex,hx⟩:=Z89 r fr (by omega) (by omega)
    rw[cr] at ex
    have v:=hx.1 (Option.some.inj ex).symm
    exact⟨fr,v.pos.len,v.neg.len⟩
   ·rw[k3 he3];exact HOk.zero
  rw[E3,sb,chkB (by simp;omega),Zj (n:=i+1) (by omega) (by omega)]
  exact ih w s tm _ (o++[⟨tm,r⟩]) a2 e2 (i+1) (by omega) (by simp;omega) (by simp;omega) g3 g4 g5 (fun s hs=>by
   rcases List.mem_append.1 hs with hs | hs
   ·exact hok s hs
   ·simp at hs;subst hs;exact hr) g2
theorem get_fwd (hb:Src b) {a k:Nat} {s z:List Bool} (hk:k≤64) (hs:s.length=k) (ha:a≤8*b.length) (h:(Z04 b).drop a=s++z):Zi.f b (a:Int) 0 (k:Int)=some (((val s:Nat):Int),((a+k:Nat):Int),0):=by
 have l1:=congrArg List.length h
 simp only[List.length_drop,Z0l,List.length_append] at l1
 rcases Z7d hb hk ha with ⟨_,h2⟩ | ⟨h1,_⟩
 ·rw[h2,h,List.take_left' hs]
 ·omega
theorem get_tot (hb:Src b) {a k:Nat} (hk:k≤64) (ha:a≤8*b.length) (e:Int):∃ (n a1:Nat) (e1:Int),Zi.f b (a:Int) e (k:Int)=some ((n:Int),(a1:Int),e1)∧a1≤8*b.length∧n<2 ^ k:=by
 have hp:0<2 ^ k:=Nat.pow_pos (by omega)
 by_cases he:e=0
 ·subst he
  rcases Z7d hb hk ha with ⟨h1,h2⟩ | ⟨h1,h2⟩
  ·refine⟨_,_,0,h2,h1,?_⟩
   have:=val_lt (((Z04 b).drop a).take k)
   rwa [List.length_take,List.length_drop,Z0l,Nat.min_eq_left (by omega)] at this
  ·exact⟨0,8*b.length,7,h2,Nat.le_refl _,hp⟩
 ·exact⟨0,a,e,get_bad hk he,ha,hp⟩
theorem bit_tot (hb:Src b) {a:Nat} (ha:a≤8*b.length):∃ (x:Bool) (a1:Nat) (e1:Int),Zr.f b (a:Int) 0=some (x,(a1:Int),e1)∧a1≤8*b.length:=by
 by_cases h:a<8*b.length
 ·have hlt:a<(Z04    b).length:=by rw[Z0l       ];exact h
  exact⟨_,a+1,0,Z4s hb (List.getElem?_eq_getElem hlt),by omega⟩
 ·exact⟨false,a,7,rbit_end hb (by omega),ha⟩
theorem enc_tot (l:List Zh) (hl:l.length≤1000) (hk:∀ s∈l,HOk s.f1):∃ (x:List Int) (e:Int),Zm.f l=some (x,e)∧x.length<1000000000∧(e=0→COk l∧l≠[]∧Z0e.f l=some 0∧∃ f,Laid x f (Z3q l)):=by
 obtain⟨e,e1,e3⟩:=chk_p l (by omega) (fun s hs=>(hk s hs).fits)
 by_cases he:e=0
 ·subst he
  obtain⟨hc,hne⟩:=e3 rfl
  obtain⟨x,f,E,h⟩:=enc_eq hc hne (fun s hs=>(hk s hs).fits) e1
  have:=h.len
  have:=h.lt
  have:=Z6n hc (fun s hs=>(hk s hs).fits)
  exact⟨x,0,E,by omega,fun _=>⟨hc,hne,e1,f,h⟩⟩
 ·refine⟨[],e,?_,by simp,fun h=>absurd h he⟩
  unfold Zm.f
  rw[e1,sb,if_pos (by simpa using he)]
theorem dec_tot (hb:Src b):∃ (l:List Zh) (e:Int),Z0p.f b=some (l,e)∧((e=6∧l=[])∨(e=0∧COk l∧l≠[]∧(∀ s∈l,HOk s.f1)∧Z0e.f l=some 0∧∃ f,Laid b f (Z3q l))):=by
 have hbl:=hb.len
 unfold Z0p.f Z2q.f
 rw[sb]
 obtain⟨x,a1,e1,E1,g1⟩:=bit_tot hb (a:=0) (by omega)
 rw[show Zr.f b 0 0=_ from E1,sb]
 dsimp only
 obtain⟨K,EK,hK⟩:∃ K:Int,((if x=true then(some 1) else(some 0)):Option (Int))=some K∧I64 K:=by
  cases x
  ·exact⟨0,rfl,by omega⟩
  ·exact⟨1,rfl,by omega⟩
 rw[EK,sb]
 obtain⟨n,a2,e2,E2,g2,h2⟩:=get_tot hb (k:=4) (by omega) g1 e1
 rw[show Zi.f b (a1:Int) e1 4=_ from E2,sb]
 dsimp only
 obtain⟨z,a3,e3,E3,g3,h3⟩:=Z81 hb g2 e2
 rw[E3,sb]
 dsimp only
 by_cases c:z < -524288∨z>262144
 ·have:((if(decide (z<(-524288)))=true then(some true) else(some (decide (z>(262144:Int))))):Option (Bool))=some true:=by
   by_cases c1:z < -524288
   ·rw[if_pos (by simpa using c1)]
   ·rw[if_neg (by simpa using c1)];simp;omega
  rw[this,sb,if_pos rfl]
  exact⟨[],6,rfl,.inl ⟨rfl,rfl⟩⟩
 have:((if(decide (z<(-524288)))=true then(some true) else(some (decide (z>(262144:Int))))):Option (Bool))=some false:=by
  rw[if_neg (by simp;omega)];simp;omega
 rw[this,sb,if_neg (by simp)]
 obtain⟨L,a4,e4,E4,g4,h4⟩:=tk_tot hb g3 e3
 rw[E4,sb]
 dsimp only
 obtain⟨M,a5,e5,E5,g5,h5⟩:=tk_tot hb g4 e4
 rw[E5,sb]
 dsimp only
 obtain⟨P,iP,lP,bP⟩:=h4.ind
 obtain⟨N,iN,lN,bN⟩:=h5.ind
 obtain⟨q,a6,e6,E6,g6,h6⟩:=Z45 hb g5 e5 (m:=31) (by omega)
 have ES:∃ (r:List Zh) (a':Nat) (e':Int),Ze.f b (a5:Int) e5 (⟨K,i64.wrap ((i64.wrap (n:Int))+(-4)),z,0,0,0,[],[]⟩:Zp) L M=some (r,(a':Int),e')∧a'≤8*b.length∧r.length≤32∧∀ s∈r,HOk s.f1:=by
  unfold Ze.f
  rw[show Za.f b (a5:Int) e5 31=_ from E6,sb,iP,sb,iN,sb,Z3j (by omega) (by omega),chkB (by omega)]
  obtain⟨r,a',e',E,k1,k2,k3⟩:=smp_tot hb iP iN lP lN bP bN (⟨K,i64.wrap ((i64.wrap (n:Int))+(-4)),z,0,0,0,[],[]⟩:Zp) ⟨hK,Z54 _,by dsimp only;omega,by dsimp only;omega⟩ ((q:Int),(a6:Int),e6) (by dsimp only;omega) 33 (List.replicate (Int.toNat ((2+P.length+N.length:Nat):Int)) 0) (List.replicate (Int.toNat ((2+P.length+N.length:Nat):Int)) 0) 0 0 [] a6 e6 0 (by omega) rfl (by simp) (by rw[List.length_replicate,Int.toNat_natCast]) (by rw[List.length_replicate,Int.toNat_natCast]) (fun x hx=>by rw[List.eq_of_mem_replicate hx];omega) (by simp) g6
  dsimp only
  rw[E,sb]
  exact⟨r,a',e',rfl,k1,k2,k3⟩
 obtain⟨r,a7,e7,E7,g7,h7,k7⟩:=ES
 rw[E7,sb]
 dsimp only
 obtain⟨w,a8,e8,E8⟩:=end_tot hb g7 e7
 rw[E8,sb]
 dsimp only
 by_cases hw:w=0
 case neg=>rw[if_pos (by simpa using hw)];exact⟨[],6,rfl,.inl ⟨rfl,rfl⟩⟩
 rw[if_neg (by simpa using hw)]
 obtain⟨y,e9,E9,h9,k9⟩:=enc_tot r (by omega) k7
 rw[E9,sb]
 dsimp only
 by_cases he:e9=0
 case neg=>rw[if_pos (by simpa using he),sb,if_pos rfl];exact⟨[],6,rfl,.inl ⟨rfl,rfl⟩⟩
 obtain⟨q1,q2,q3,f,q4⟩:=k9 he
 rw[if_neg (by simpa using he),eqbytes y b h9,sb,sb]
 by_cases hyb:y=b
 ·rw[if_neg (by simp[hyb])]
  subst hyb
  exact⟨r,0,rfl,.inr ⟨rfl,q1,q2,k7,q3,f,q4⟩⟩
 ·rw[if_pos (by simp[hyb])];exact⟨[],6,rfl,.inl ⟨rfl,rfl⟩⟩
theorem dec_fwd (hb:Src b) {l:List Zh} (hc:COk l) (hne:l≠[]) (hk:∀ s∈l,HOk s.f1) (h0:Z0e.f l=some 0) (z:List Bool) (h:Z04 b=Z3q l++z) :
  (8≤z.length→Z0p.f b=some ([],6))∧(∀ f,f<8→z=List.replicate f false→Z0p.f b=some (l,0)):=by
 have hF:∀ s∈l,Fits s.f1:=fun s hs=>(hk s hs).fits
 obtain⟨iP,iN⟩:=hc.ids hF
 have lP:=hc.pos
 have lN:=hc.neg
 have h32:=hc.len
 have hbl:=hb.len
 obtain⟨s,r,hl⟩:∃ s r,l=s::r:=by
  cases l with
  | nil=>exact absurd rfl hne
  | cons s r=>exact⟨s,r,rfl⟩
 have hs:=hc.ok s (by rw[hl];simp)
 have fs:=hF s (by rw[hl];simp)
 have hsch:=hs.1.schema
 have hs1:=hsch.1
 have hs2:=hsch.2
 have hz:=hs.1.zero
 have hkd:=hs.1.kind
 have hcb:Z3q l=[s.f1.f0==1]++(nb (s.f1.f1+4).toNat 4++(intB s.f1.f2++(lyB (lay (allI 0 l))++(lyB (lay (allI 1 l))++(cnt2 (l.length-1)++body (allI 0 l) (allI 1 l) none none l))))):=by rw[hl];rfl
 have d0:Z04 b=[s.f1.f0==1]++(nb (s.f1.f1+4).toNat 4++(intB s.f1.f2++(lyB (lay (allI 0 l))++(lyB (lay (allI 1 l))++(cnt2 (l.length-1)++(body (allI 0 l) (allI 1 l) none none l++z)))))):=by
  rw[h,hcb];simp
 have lb:=congrArg List.length d0
 simp only[Z0l,List.length_append,Z4o,List.length_singleton] at lb
 have x0:(Z04 b)[0]? = some (s.f1.f0==1):=by rw[d0];rfl
 have E1:=Z4s hb x0
 have d1:(Z04 b).drop 1=nb (s.f1.f1+4).toNat 4++(intB s.f1.f2++(lyB (lay (allI 0 l))++(lyB (lay (allI 1 l))++(cnt2 (l.length-1)++(body (allI 0 l) (allI 1 l) none none l++z))))):=by rw[d0];rfl
 have E2:=get_fwd hb (k:=4) (by omega) (Z4o _ _) (by omega) d1
 rw[val_nb,Nat.mod_eq_of_lt (by omega)] at E2
 have d2:(Z04 b).drop (1+4)=intB s.f1.f2++(lyB (lay (allI 0 l))++(lyB (lay (allI 1 l))++(cnt2 (l.length-1)++(body (allI 0 l) (allI 1 l) none none l++z)))):=by rw[← List.drop_drop,d1,List.drop_left' (Z4o _ _)]
 have E3:=Z82 hb (x:=s.f1.f2) (by omega) (by omega) d2
 have d3:(Z04 b).drop (1+4+(intB s.f1.f2).length)=lyB (lay (allI 0 l))++(lyB (lay (allI 1 l))++(cnt2 (l.length-1)++(body (allI 0 l) (allI 1 l) none none l++z))):=by rw[← List.drop_drop,d2,List.drop_left]
 obtain⟨a4,E4,g4,d4⟩:=tk_fwd hb iP lP (by omega) _ d3
 obtain⟨a5,E5,g5,d5⟩:=tk_fwd hb iN lN g4 _ d4
 have E6:=Z3k hb (n:=l.length-1) (m:=31) (by omega) (by omega) g5 d5
 have l5:=congrArg List.length d5
 simp only[List.length_drop,Z0l,List.length_append] at l5
 have d6:(Z04 b).drop (a5+(cnt2 (l.length-1)).length)=body (allI 0 l) (allI 1 l) none none l++z:=by rw[← List.drop_drop,d5,List.drop_left]
 have hll:1≤l.length:=by rw[hl];simp
 have hK:((if(s.f1.f0==1)=true then(some 1) else(some 0)):Option (Int))=some s.f1.f0:=by
  rcases hkd with e | e<;>rw[e]<;>rfl
 have hsc:i64.wrap ((i64.wrap (((s.f1.f1+4).toNat:Nat):Int))+(-4))=s.f1.f1:=by
  rw[Zj (n:=(((s.f1.f1+4).toNat:Nat):Int)) (by omega) (by omega),Zj (by omega) (by omega)];omega
 have hat:((if(decide (s.f1.f2<(-524288)))=true then(some true) else(some (decide (s.f1.f2>(262144:Int))))):Option (Bool))=some false:=by
  rw[if_neg (by simp;omega)];simp;omega
 obtain⟨a7,E7,g7,d7⟩:=smp_l0 hb hc hF (⟨s.f1.f0,s.f1.f1,s.f1.f2,0,0,0,[],[]⟩:Zp) (fun x hx=>hc.head s (by rw[hl];simp) x hx) (((l.length-1:Nat):Int),((a5+(cnt2 (l.length-1)).length:Nat):Int),0) (by dsimp only;omega) z l [] none none (List.replicate (Int.toNat ((2+(allI 0 l).length+(allI 1 l).length:Nat):Int)) 0) (List.replicate (Int.toNat ((2+(allI 0 l).length+(allI 1 l).length:Nat):Int)) 0) 0 0 (a5+(cnt2 (l.length-1)).length) 0 rfl rfl (.inl ⟨rfl,rfl,rfl⟩) (by rw[List.length_replicate,Int.toNat_natCast]) (by rw[List.length_replicate,Int.toNat_natCast]) (fun x hx=>by cases hx) (fun y x hy=>by cases hy) (fun _=>rfl) (by omega) d6
 have ES:Ze.f b (a5:Int) 0 (⟨s.f1.f0,s.f1.f1,s.f1.f2,0,0,0,[],[]⟩:Zp) (lay (allI 0 l)) (lay (allI 1 l))=some (l,(a7:Int),0):=by
  unfold Ze.f
  rw[show Za.f b (a5:Int) 0 31=_ from E6,sb,Z4i iP.sm (by omega),sb,Z4i iN.sm (by omega),sb,Z3j (by omega) (by omega),chkB (by omega)]
  dsimp only
  rw[E7,sb]
 have l7:=congrArg List.length d7
 rw[List.length_drop,Z0l] at l7
 have pre:Z0p.f b=((Zn.f b (a7:Int) 0)>>=fun t3478=>if(t3478.1 != (0:Int))=true then(some ([],6)) else((Zm.f l)>>=fun t3483=>((if(t3483.2 != (0:Int))=true then(some true) else((Z0b.f t3483.1 b)>>=fun t3521=>some (!t3521))):Option (Bool))>>=fun x3523=>if x3523=true then(some ([],6)) else(some (l,0)))):=by
  unfold Z0p.f Z2q.f
  rw[sb,show Zr.f b 0 0=_ from E1,sb]
  dsimp only
  rw[hK,sb,show Zi.f b ((0+1:Nat):Int) 0 4=_ from E2,sb]
  dsimp only
  rw[E3,sb]
  dsimp only
  rw[hat,sb,if_neg (by simp),E4,sb]
  dsimp only
  rw[E5,sb]
  dsimp only
  rw[hsc,ES,sb]
 constructor
 ·intro h8
  rw[pre,end_long hb (by omega),sb,if_pos (by simp)]
 ·intro f hf hzf
  rw[hzf] at d7
  obtain⟨a',E⟩:=end_ok hb hf g7 d7
  obtain⟨y,f',EY,hY⟩:=enc_eq hc hne hF h0
  have hY2:Laid b f (Z3q l):=⟨hb.byte,hf,by rw[h,hzf]⟩
  have:=hY.unique hY2
  subst this
  rw[pre,E,sb,if_neg (by simp),EY,sb,if_neg (by simp),eqbytes y y (by omega),sb,sb,if_neg (by simp)]
end Go.Proofs.Ytlclecehlekjoaa.PvGE
set_option linter.unusedVariables false
set_option linter.unusedSimpArgs false
set_option maxRecDepth 100000
namespace Go.Proofs.Ytlclecehlekjoaa.PvGE
open Go Go.Pv Go.Pv.GS Go.IntKind
theorem awake9:Z1d.f=some true:=by cbv
theorem light9_l0 (l:List Zh) (hl:l.length<1000000000000000):∀ (suf pre:List Zh) (x i:Int),l=pre++suf→i=(pre.length:Int)→∃ r,Z0v.l0 l x i=some r:=by
 intro suf
 induction suf with
 | nil=>intro pre x i h1 hi;rw[Z0v.l0,if_neg (by rw[h1];simp[hi])];exact⟨_,rfl⟩
 | cons s suf ih =>
  intro pre x i h1 hi
  have hlen:l.length=pre.length+(suf.length+1):=by rw[h1];simp
  rw[Z0v.l0,if_pos (by simp;omega),Z1n h1 hi,sb,Zj (n:=i+1) (by omega) (by omega)]
  exact ih (pre++[s]) _ (i+1) (by simp[h1]) (by simp;omega)
theorem light9 (l:List Zh) (hl:l.length<1000000000000000):∃ g,Z0v.f l=some g:=by
 unfold Z0v.f
 obtain⟨r,e⟩:=light9_l0 l hl l [] 0 0 rfl rfl
 rw[e,sb];exact⟨_,rfl⟩
theorem enc_anyP (l:List Zh) (hl:l.length≤140737488351232) (hR:∀ s∈l,Z8g s):∃ (x:List Int) (e:Int),Zm.f l=some (x,e)∧Z0e.f l=some e∧(e≠0→x=[]) ∧
  (e=0→COk l∧l≠[]∧(∀ s∈l,HOk s.f1)∧∃ f,Laid x f (Z3q l)):=by
 obtain⟨e,e1,e3⟩:=chk_p l (by omega) (fun s hs=>fits_of (hR s hs).r1)
 by_cases he:e=0
 ·subst he
  obtain⟨hc,hne⟩:=e3 rfl
  have hk:∀ s∈l,HOk s.f1:=fun s hs=>⟨fits_of (hR s hs).r1,(hc.ok s hs).1.pos.len,(hc.ok s hs).1.neg.len⟩
  obtain⟨x,f,E,h⟩:=enc_eq hc hne (fun s hs=>(hk s hs).fits) e1
  exact⟨x,0,E,e1,by simp,fun _=>⟨hc,hne,hk,f,h⟩⟩
 ·refine⟨[],e,?_,e1,fun _=>rfl,fun h=>absurd h he⟩
  unfold Zm.f
  rw[e1,sb,if_pos (by simpa using he)]
theorem laid_src {x:List Int} {f:Nat} {l:List Zh} (h:Laid x f (Z3q l)) (hc:COk l) (hk:∀ s∈l,HOk s.f1):Src x∧x.length≤400000:=by
 have h1:=h.len
 have h2:=h.lt
 have h3:=Z6n hc (fun s hs=>(hk s hs).fits)
 exact⟨⟨h.byte,by omega⟩,by omega⟩
end Go.Proofs.Ytlclecehlekjoaa.PvGE
set_option linter.unusedVariables false
set_option linter.unusedSimpArgs false
set_option maxRecDepth 10000
namespace Go.Proofs.Ytlclecehlekjoaa.PvGE
open Go Go.Pv Go.Pv.GS Go.IntKind
theorem ints_toB {x:List Int} (h:∀ n∈x,Byte n):ints (toB x)=x:=by
 unfold ints toB
 rw[List.map_map]
 have:∀ n∈x,((fun c:UInt8=>(c.toNat:Int)) ∘ fun x:Int=>UInt8.ofNat x.toNat) n=n:=fun n hn=>by
  have q:=h n hn
  have:=q.1;have:=q.2
  simp only[Function.comp_apply,UInt8.toNat_ofNat']
  omega
 rw[List.map_congr_left this];exact List.map_id _
theorem strOf_dec {x y:List Int} (hx:∀ n∈x,Byte n) (hy:∀ n∈y,Byte n):((Z8i x).toList==(Z8i y).toList)=decide (x=y):=by
 rw[toList_L,toList_L,strOf_eq,strOf_eq,L_mk,L_mk]
 by_cases c:x=y
 ·subst c;simp
 ·rw[decide_eq_false c]
  have:¬ toB x=toB y:=fun h=>c (by rw[← ints_toB hx,← ints_toB hy,h])
  simpa using this
theorem cut_last {x:List Int} (h:x≠[]):∃ (p:List Int) (v:Int),x=p++[v]∧(x.drop (Int.toNat (0:Int))).take ((Int.toNat (((x.length:Nat):Int)-1))-(Int.toNat (0:Int)))=p:=by
 rcases List.eq_nil_or_concat x with rfl | ⟨p,v,rfl⟩
 ·exact absurd rfl h
 ·rw[List.concat_eq_append]
  refine⟨p,v,rfl,?_⟩
  rw[show Int.toNat (0:Int)=0 from rfl,List.drop_zero,Nat.sub_zero]
  have:Int.toNat (((p++[v]).length:Int)-1)=p.length:=by simp
  rw[this,List.take_left]
theorem chunkTurns_R (a b:List Zh) (more:Int) (ha:a.length≤140737488351232∧∀ y∈a,Z8g y) (hb:b.length≤140737488351232∧∀ y∈b,Z8g y) (hm:Rng 0 256 more):Z27.f a b more=some true:=by
 unfold Z27.f
 obtain⟨ga,ega⟩:=light9 a (by omega)
 obtain⟨gb,egb⟩:=light9 b (by omega)
 obtain⟨g,eg⟩:∃ g:Bool,(((Z0v.f a)>>=fun t25=>if(!t25)=true then(some true) else((Z0v.f b)>>=fun t28=>some (!t28))):Option (Bool))=some g:=by
  rw[ega,egb,sb,sb]
  cases ga<;>exact⟨_,rfl⟩
 rw[eg,sb]
 cases g with
 | true=>rw[if_pos rfl,awake9,sb]
 | false =>
  rw[if_neg (by simp)]
  obtain⟨x,e,E1,C1,h01,h1⟩:=enc_anyP a ha.1 ha.2
  obtain⟨y,f,E2,C2,h02,h2⟩:=enc_anyP b hb.1 hb.2
  rw[E1,sb,E2,sb]
  dsimp only
  by_cases he:e=0
  case neg=>rw[if_pos (by simpa using he),sb,if_pos rfl,awake9,sb,if_pos rfl,if_pos (by simpa using he),sb]
  by_cases hf:f=0
  case neg=>rw[if_neg (by simpa using he),if_pos (by simpa using hf),sb,if_pos rfl,awake9,sb,if_pos rfl,if_neg (by simpa using he),sb];simpa using hf
  obtain⟨ca,na,ka,fa,La⟩:=h1 he
  obtain⟨cb,nb',kb,fb,Lb⟩:=h2 hf
  subst he;subst hf
  obtain⟨sa,xl⟩:=laid_src La ca ka
  obtain⟨sb',yl⟩:=laid_src Lb cb kb
  have hxn:x≠[]:=by
   intro h
   have:=La.len
   rw[h] at this
   have hp:0<(Z3q a).length:=by
    cases a with
    | nil=>exact absurd rfl na
    | cons s r=>simp[Z3q]
   simp at this;omega
  have hxl:x.length≠0:=fun h=>hxn (List.length_eq_zero_iff.1 h)
  rw[if_neg (by simp),if_neg (by simp),sb,if_neg (by simp;omega),chkB (by simp;omega),chkB (by simp;omega),Zj (by omega) (by omega)]
  have hs1:Src (([]++x)++[more]):=⟨fun n hn=>by
   rw[List.nil_append] at hn
   rcases List.mem_append.1 hn with hn | hn
   ·exact sa.byte n hn
   ·simp at hn;subst hn;exact hm,by simp;omega⟩
  have D1:=(dec_fwd hs1 ca na ka C1 (List.replicate fa false++Z38 more) (by rw[List.nil_append,Z2u,La.bits,show Z04 [more]=Z38 more by simp[Z04]];simp)).1 (by simp[Z37])
  have D0:=(dec_fwd sa ca na ka C1 _ La.bits).2 fa La.lt rfl
  obtain⟨p,v,hpv,hcut⟩:=cut_last hxn
  have hsp:Src p:=⟨fun n hn=>sa.byte n (by rw[hpv];simp[hn]),by have:=congrArg List.length hpv;simp at this;omega⟩
  have D2:∃ l,Z0p.f p=some (l,6):=by
   obtain⟨l,e,E,hr⟩:=dec_tot hsp
   rcases hr with ⟨rfl,rfl⟩ | ⟨rfl,hc,hne,hk,hC,f,hL⟩
   ·exact⟨_,E⟩
   ·exfalso
    have:=(dec_fwd sa hc hne hk hC (List.replicate f false++Z38 v) (by rw[hpv,Z2u,hL.bits,show Z04 [v]=Z38 v by simp[Z04]];simp)).1 (by simp[Z37])
    rw[D0] at this
    simp at this
  obtain⟨l2,D2⟩:=D2
  have h32:=ca.len
  rw[D1,sb,chkB (by omega),hcut,D2,sb,awake9,sb,if_pos rfl,same9_eq a b (by omega) (fun s hs=>by have:=(ka s hs).pos;have:=(ka s hs).neg;omega),sb,strOf_dec sa.byte sb'.byte]
  have hiff:decide (x=y)=decide (a=b):=by
   by_cases c:a=b
   ·subst c
    rw[E1] at E2
    have:x=y:=by simpa using E2
    rw[decide_eq_true this,decide_eq_true rfl]
   ·have:¬ x=y:=fun h=>c (by
     subst h
     have D3:=(dec_fwd sa cb nb' kb C2 _ Lb.bits).2 fb Lb.lt rfl
     rw[D0] at D3
     simpa using D3)
    rw[decide_eq_false this,decide_eq_false c]
  rw[hiff,if_pos (by simp),if_pos (by simp),sb]
  simp
end Go.Proofs.Ytlclecehlekjoaa.PvGE
