import Derived.Test.YtlclecehlekjoaaGreatPxChunkEncodes16
set_option linter.unusedVariables false
set_option linter.unusedSimpArgs false
set_option maxRecDepth 10000
namespace Go.Proofs.YtlclecehlekjoaaGreat.PvGK
open Go Go.Pv Go.Pv.GS Go.IntKind
variable {b:List Int}
theorem Z6u {p n:Nat} (hp:p≤1000000) (hn:n≤1000000):i64.wrap (i64.wrap ((2:Int)+(p:Int))+(n:Int))=((2+p+n:Nat):Int):=by
 rw[Zc (n:=(2:Int)+(p:Int)) (by omega) (by omega),Zc (by omega) (by omega)];omega
theorem s1_0 (hb:Src b) (H:Ze) (L M:Z8) (t:Int×Int×Int) (P N:List Int) (hP:P.length≤1000000) (hN:N.length≤1000000) (la:Int) (o:List Zd) (tm:Int) (step:List Int) (z:List Bool) :
  ∀ (sn pn sx:List Int) (a:Nat) (k:Int),pn.length+sn.length=2+P.length+N.length→sx.length=sn.length→k=(pn.length:Int)→(∀ n∈sn,U64 n)→a≤8*b.length→(Z0o b).drop a=row0 sn++z →
  ∃ a':Nat,Zl.l1 b H L M t P N la o 0 tm (a:Int) 0 (pn++sx) step k=some ((a':Int),0,pn++sn,step)∧a'≤8*b.length∧(Z0o b).drop a'=z:=by
 intro sn
 induction sn with
 | nil =>
  intro pn sx a k h1 h2 hk _ ha h
  have hsx:sx=[]:=List.length_eq_zero_iff.1 (by simpa using h2)
  subst hsx
  rw[Zl.l1,Z6u hP hN,if_neg (by simp at h1 ⊢;omega)]
  exact⟨a,rfl,ha,by simpa[row0] using h⟩
 | cons n sn ih =>
  intro pn sx a k h1 h2 hk hu ha h
  cases sx with
  | nil=>simp at h2
  | cons x sx =>
   simp only[List.length_cons] at h1 h2
   have hn:=hu n (by simp)
   rw[Z92,List.append_assoc] at h
   have c:=Z9g hb (n:=n.toNat) (by have:=hn.1;have:=hn.2;omega) ha h
   have l1:=congrArg List.length h
   simp only[List.length_drop,Z1c,List.length_append] at l1
   rw[Int.toNat_of_nonneg hn.1] at c
   rw[Zl.l1,Z6u hP hN,if_pos (by simp;omega),if_pos (by simp),c,sb,Z58 pn x sx hk,sb,sb]
   dsimp only
   rw[Z6y pn x n sx hk,Zc (n:=k+1) (by omega) (by omega)]
   obtain⟨a',e,g1,g2⟩:=ih (pn++[n]) sx (a+(cnt2 n.toNat).length) (k+1) (by simp;omega) (by omega) (by simp;omega) (fun m hm=>hu m (by simp[hm])) (by omega) (by rw[← List.drop_drop,h,List.drop_left])
   rw[List.append_assoc,List.singleton_append,List.append_assoc,List.singleton_append] at e
   exact⟨a',e,g1,g2⟩
theorem back1 {n w:Int} (hn:U64 n):u64.wrap (w+u64.wrap (i64.wrap (u64.wrap (n-w))))=n:=by
 have:=hn.1;have:=hn.2
 simp only[Z42,Z4k];omega
theorem s1_1 (hb:Src b) (H:Ze) (L M:Z8) (t:Int×Int×Int) (P N:List Int) (hP:P.length≤1000000) (hN:N.length≤1000000) (la:Int) (o:List Zd) (tm:Int) (z:List Bool) :
  ∀ (sn pn sw ss ps:List Int) (a:Nat) (k:Int),pn.length+sn.length=2+P.length+N.length→sw.length=sn.length→ss.length=sn.length→ps.length=pn.length→k=(pn.length:Int)→(∀ n∈sn,U64 n)→a≤8*b.length→(Z0o b).drop a=row1 sn sw++z →
  ∃ a':Nat,Zl.l1 b H L M t P N la o 1 tm (a:Int) 0 (pn++sw) (ps++ss) k=some ((a':Int),0,pn++sn,ps++subR sn sw)∧a'≤8*b.length∧(Z0o b).drop a'=z:=by
 intro sn
 induction sn with
 | nil =>
  intro pn sw ss ps a k h1 h2 h3 h4 hk _ ha h
  have hsw:sw=[]:=List.length_eq_zero_iff.1 (by simpa using h2)
  have hss:ss=[]:=List.length_eq_zero_iff.1 (by simpa using h3)
  subst hsw;subst hss
  rw[Zl.l1,Z6u hP hN,if_neg (by simp at h1 ⊢;omega)]
  exact⟨a,by simp[subR],ha,by simpa[row1] using h⟩
 | cons n sn ih =>
  intro pn sw ss ps a k h1 h2 h3 h4 hk hu ha h
  cases sw with
  | nil=>simp at h2
  | cons w sw =>
   cases ss with
   | nil=>simp at h3
   | cons v ss =>
    simp only[List.length_cons] at h1 h2 h3
    have hn:=hu n (by simp)
    rw[Z5k,List.append_assoc] at h
    have c:=Z9c hb (Z6i (u64.wrap (n-w))) ha h
    have l1:=congrArg List.length h
    simp only[List.length_drop,Z1c,List.length_append] at l1
    have hst:u64.wrap (i64.wrap (u64.wrap (n-w)))=u64.wrap (n-w):=by simp only[Z42,Z4k];omega
    have hbk:=back1 (w:=w) hn
    rw[hst] at hbk
    rw[Zl.l1,Z6u hP hN,if_pos (by simp;omega),if_neg (by simp),if_pos (by simp),c,sb,Z58 ps v ss (by omega),sb,Z58 pn w sw hk,sb]
    dsimp only
    rw[Z6y ps v _ ss (by omega),Z58 ps _ ss (by omega),sb,sb]
    dsimp only
    rw[sb]
    dsimp only
    rw[Z6y pn w _ sw hk,hst,hbk,Zc (n:=k+1) (by omega) (by omega)]
    obtain⟨a',e,g1,g2⟩:=ih (pn++[n]) sw ss (ps++[u64.wrap (n-w)]) (a+(intB (i64.wrap (u64.wrap (n-w)))).length) (k+1) (by simp;omega) (by omega) (by omega) (by simp;omega) (by simp;omega) (fun m hm=>hu m (by simp[hm])) (by omega) (by rw[← List.drop_drop,h,List.drop_left])
    rw[List.append_assoc,List.singleton_append,List.append_assoc,List.singleton_append,List.append_assoc,List.singleton_append,List.append_assoc,List.singleton_append] at e
    exact⟨a',by rw[Z4l];exact e,g1,g2⟩
theorem s1_2 (hb:Src b) (H:Ze) (L M:Z8) (t:Int×Int×Int) (P N:List Int) (hP:P.length≤1000000) (hN:N.length≤1000000) (la:Int) (o:List Zd) (i tm:Int) (hi:2≤i) (z:List Bool) :
  ∀ (sn pn sw ss ps:List Int) (a:Nat) (k:Int),pn.length+sn.length=2+P.length+N.length→sw.length=sn.length→ss.length=sn.length→ps.length=pn.length→k=(pn.length:Int)→(∀ n∈sn,U64 n)→a≤8*b.length→(Z0o b).drop a=row1 (subR sn sw) ss++z →
  ∃ a':Nat,Zl.l1 b H L M t P N la o i tm (a:Int) 0 (pn++sw) (ps++ss) k=some ((a':Int),0,pn++sn,ps++subR sn sw)∧a'≤8*b.length∧(Z0o b).drop a'=z:=by
 intro sn
 induction sn with
 | nil =>
  intro pn sw ss ps a k h1 h2 h3 h4 hk _ ha h
  have hsw:sw=[]:=List.length_eq_zero_iff.1 (by simpa using h2)
  have hss:ss=[]:=List.length_eq_zero_iff.1 (by simpa using h3)
  subst hsw;subst hss
  rw[Zl.l1,Z6u hP hN,if_neg (by simp at h1 ⊢;omega)]
  exact⟨a,by simp[subR],ha,by simpa[row1,subR] using h⟩
 | cons n sn ih =>
  intro pn sw ss ps a k h1 h2 h3 h4 hk hu ha h
  cases sw with
  | nil=>simp at h2
  | cons w sw =>
   cases ss with
   | nil=>simp at h3
   | cons v ss =>
    simp only[List.length_cons] at h1 h2 h3
    have hn:=hu n (by simp)
    rw[Z4l,Z5k,List.append_assoc] at h
    have c:=Z9c hb (Z6i (u64.wrap (u64.wrap (n-w)-v))) ha h
    have l1:=congrArg List.length h
    simp only[List.length_drop,Z1c,List.length_append] at l1
    have hst:u64.wrap (v+u64.wrap (i64.wrap (u64.wrap (u64.wrap (n-w)-v))))=u64.wrap (n-w):=by simp only[Z42,Z4k];omega
    have hbk:u64.wrap (w+u64.wrap (n-w))=n:=by
     have:=hn.1;have:=hn.2
     simp only[Z42];omega
    rw[Zl.l1,Z6u hP hN,if_pos (by simp;omega),if_neg (by simp;omega),if_neg (by simp;omega),Z58 ps v ss (by omega),sb,c,sb,Z58 pn w sw hk,sb]
    dsimp only
    rw[Z6y ps v _ ss (by omega),Z58 ps _ ss (by omega),sb,sb]
    dsimp only
    rw[sb]
    dsimp only
    rw[Z6y pn w _ sw hk,hst,hbk,Zc (n:=k+1) (by omega) (by omega)]
    obtain⟨a',e,g1,g2⟩:=ih (pn++[n]) sw ss (ps++[u64.wrap (n-w)]) (a+(intB (i64.wrap (u64.wrap (u64.wrap (n-w)-v)))).length) (k+1) (by simp;omega) (by omega) (by omega) (by simp;omega) (by simp;omega) (fun m hm=>hu m (by simp[hm])) (by omega) (by rw[← List.drop_drop,h,List.drop_left])
    rw[List.append_assoc,List.singleton_append,List.append_assoc,List.singleton_append,List.append_assoc,List.singleton_append,List.append_assoc,List.singleton_append] at e
    exact⟨a',by rw[Z4l];exact e,g1,g2⟩
theorem make_id {h g:Ze} (v:Z23 h) (f:Fits h) (e0:g.f0=h.f0) (e1:g.f1=h.f1) (e2:g.f2=h.f2) (e3:g.f3=h.f3) (e5:g.f5=h.f5):Z29.f g h.f6 h.f7=some (h,0):=by
 have m0:=v.pos.len
 have m1:=v.neg.len
 have ht:=v.total
 have t1:=tidy_id h.f6 (by omega) (fun y hy=>(f.pos y hy).2) v.pos.canon
 have t2:=tidy_id h.f7 (by omega) (fun y hy=>(f.neg y hy).2) v.neg.canon
 have t3:=total3 h.f6 h.f7 h.f3 (by omega) (by omega) (fun y hy=>(f.pos y hy).2) (fun y hy=>(f.neg y hy).2) f.zero
 rw[if_pos ht,← v.count] at t3
 unfold Z29.f
 rw[t1,sb,t2,sb,if_neg (by simp),e3,t3,sb,if_neg (by simp),e0,e1,e2,e5]
 dsimp only
 rw[show Z0w.f (⟨h.f0,h.f1,h.f2,h.f3,h.f4,h.f5,h.f6,h.f7⟩:Ze)=_ from check_T h f v,sb,if_neg (by simp)]
theorem cut_p (h:Ze) (P N:List Int):((Z10 h P N).drop (Int.toNat (2:Int))).take (Int.toNat (((2+P.length:Nat):Int))-Int.toNat (2:Int))=P.map (tot h.f6):=by
 have e:(Z10 h P N).drop 2=P.map (tot h.f6)++N.map (tot h.f7):=by unfold Z10;simp
 rw[show Int.toNat (2:Int)=2 from rfl,e,Int.toNat_natCast,Nat.add_sub_cancel_left,List.take_left' (by simp)]
theorem cut_n (h:Ze) (P N:List Int):((Z10 h P N).drop (Int.toNat (((2+P.length:Nat):Int)))).take (Int.toNat (((Z10 h P N).length:Int))-Int.toNat (((2+P.length:Nat):Int)))=N.map (tot h.f7):=by
 have e:(Z10 h P N).drop (2+P.length)=N.map (tot h.f7):=by
  unfold Z10
  rw[List.drop_left' (by simp;omega)]
 rw[Int.toNat_natCast,Int.toNat_natCast,e,Z35]
 exact List.take_of_length_le (by simp)
theorem smp_l0 (hb:Src b) {l:List Zd} (hc:COk l) (hF:∀ s∈l,Fits s.f1) (H:Ze) (hH:∀ s∈l,H.f0=s.f1.f0∧H.f1=s.f1.f1∧H.f2=s.f1.f2) (t:Int×Int×Int) (ht:t.1=(l.length:Int)-1) (z:List Bool) :
  ∀ (suf pre:List Zd) (q p:Option Zd) (was step:List Int) (la gap:Int) (a:Nat) (i:Int),l=pre++suf→i=(pre.length:Int)→Two pre q p→was.length=2+(allI 0 l).length+(allI 1 l).length→step.length=2+(allI 0 l).length+(allI 1 l).length →
  (∀ x,p=some x→was=Z10 x.f1 (allI 0 l) (allI 1 l)∧la=x.f0)→(∀ y x,q=some y→p=some x→step=subR (Z10 x.f1 (allI 0 l) (allI 1 l)) (Z10 y.f1 (allI 0 l) (allI 1 l))∧gap=x.f0-y.f0)→(p=none→la=0) →
  a≤8*b.length→(Z0o b).drop a=body (allI 0 l) (allI 1 l) q p suf++z →
  ∃ a':Nat,Zl.l0 b H (lay (allI 0 l)) (lay (allI 1 l)) t (allI 0 l) (allI 1 l) ((a:Int),0,was,step,la,gap,pre,i)=some (l,(a':Int),0)∧a'≤8*b.length∧(Z0o b).drop a'=z:=by
 obtain⟨iP,iN⟩:=hc.ids hF
 have lP:=hc.pos
 have lN:=hc.neg
 have h32:=hc.len
 intro suf
 induction suf with
 | nil =>
  intro pre q p was step la gap a i h1 hi h2 hw hs hp hq hn ha h
  rw[List.append_nil] at h1
  subst h1
  rw[Zl.l0]
  dsimp only
  rw[ht,Zc (by omega) (by omega),if_neg (by simp;omega),sb,if_neg (by simp)]
  exact⟨a,rfl,ha,by cases q<;>cases p<;>simpa[body] using h⟩
 | cons x suf ih =>
  intro pre q p was step la gap a i h1 hi h2 hw hs hp hq hn ha h
  have hlen:l.length=pre.length+(suf.length+1):=by rw[h1];simp
  have hx:=hc.ok x (by rw[h1];simp)
  have fx:=hF x (by rw[h1];simp)
  have hHx:=hH x (by rw[h1];simp)
  have hrl:=Z35 x.f1 (allI 0 l) (allI 1 l)
  have hru:=rows_u64 hx.1 fx (allI 0 l) (allI 1 l)
  have hup:=hc.up
  rw[h1] at hup
  have h2x:=h2.next x
  have hbkP:bks (allI 0 l) ((allI 0 l).map (tot x.f1.f6))=x.f1.f6:=bks_self iP.1 hx.1.pos.canon (fun y hy=>(allI_mem 0 y.f0 l).2 ⟨x,by rw[h1];simp,List.mem_map.2 ⟨y,hy,rfl⟩⟩)
  have hbkN:bks (allI 1 l) ((allI 1 l).map (tot x.f1.f7))=x.f1.f7:=bks_self iN.1 hx.1.neg.canon (fun y hy=>(allI_mem 1 y.f0 l).2 ⟨x,by rw[h1];simp,List.mem_map.2 ⟨y,hy,rfl⟩⟩)
  have hB1:=Zaa (Z5x iP.sm (by omega)) (by omega) (c:=(allI 0 l).map (tot x.f1.f6)) (by simp)
  have hB2:=Zaa (Z5x iN.sm (by omega)) (by omega) (c:=(allI 1 l).map (tot x.f1.f7)) (by simp)
  rw[hbkP] at hB1
  rw[hbkN] at hB2
  have hsum:i64.wrap (u64.wrap x.f1.f5)=x.f1.f5:=by
   have:=fx.sum.1;have:=fx.sum.2
   simp only[Z42,Z4k];omega
  have w2:i64.wrap ((2:Int)+((allI 0 l).length:Int))=((2+(allI 0 l).length:Nat):Int):=by rw[Zc (by omega) (by omega)];omega
  have fin:∀ (a1:Nat) (st:List Int) (gp:Int),st.length=2+(allI 0 l).length+(allI 1 l).length→a1≤8*b.length→(∀ y x',p=some y→some x=some x'→st=subR (Z10 x'.f1 (allI 0 l) (allI 1 l)) (Z10 y.f1 (allI 0 l) (allI 1 l))∧gp=x'.f0-y.f0)→(Z0o b).drop a1=body (allI 0 l) (allI 1 l) p (some x) suf++z →
    ∃ a':Nat,((at? (Z10 x.f1 (allI 0 l) (allI 1 l)) 0)>>=fun b3364=>(at? (Z10 x.f1 (allI 0 l) (allI 1 l)) 1)>>=fun b3367=>(chk (0≤(2:Int)∧(2:Int)≤(i64.wrap ((2:Int)+((allI 0 l).length:Int)))∧(i64.wrap ((2:Int)+((allI 0 l).length:Int)))≤((Z10 x.f1 (allI 0 l) (allI 1 l)).length:Int)))>>=fun _=>(Z0v.f (lay (allI 0 l)) (((Z10 x.f1 (allI 0 l) (allI 1 l)).drop (Int.toNat (2:Int))).take (Int.toNat (i64.wrap ((2:Int)+((allI 0 l).length:Int)))-Int.toNat (2:Int))))>>=fun t3377=>(chk (0≤(i64.wrap ((2:Int)+((allI 0 l).length:Int)))∧(i64.wrap ((2:Int)+((allI 0 l).length:Int)))≤((Z10 x.f1 (allI 0 l) (allI 1 l)).length:Int)∧((Z10 x.f1 (allI 0 l) (allI 1 l)).length:Int)≤((Z10 x.f1 (allI 0 l) (allI 1 l)).length:Int)))>>=fun _=>(Z0v.f (lay (allI 1 l)) (((Z10 x.f1 (allI 0 l) (allI 1 l)).drop (Int.toNat (i64.wrap ((2:Int)+((allI 0 l).length:Int))))).take (Int.toNat ((Z10 x.f1 (allI 0 l) (allI 1 l)).length:Int)-Int.toNat (i64.wrap ((2:Int)+((allI 0 l).length:Int))))))>>=fun t3380=>(Z29.f (⟨H.f0,H.f1,H.f2,b3364,H.f4,i64.wrap (b3367),t3377,t3380⟩:Ze) t3377 t3380)>>=fun t3386=>(chk ((pre.length+[(⟨x.f0,(t3386.1)⟩:Zd)].length)*104≤140737488355328))>>=fun _=>Zl.l0 b H (lay (allI 0 l)) (lay (allI 1 l)) t (allI 0 l) (allI 1 l) ((a1:Int),0,Z10 x.f1 (allI 0 l) (allI 1 l),st,x.f0,gp,pre++[(⟨x.f0,(t3386.1)⟩:Zd)],i64.wrap (i+(1:Int))))=some (l,(a':Int),0)∧a'≤8*b.length∧(Z0o b).drop a'=z:=by
   intro a1 st gp hst ha1 hsg hd
   have A0:at? (Z10 x.f1 (allI 0 l) (allI 1 l)) 0=some x.f1.f3:=rfl
   have A1:at? (Z10 x.f1 (allI 0 l) (allI 1 l)) 1=some (u64.wrap x.f1.f5):=rfl
   rw[A0,sb,A1,sb,w2,chkB (by rw[hrl];omega),cut_p,hB1,sb,chkB (by rw[hrl];omega),cut_n,hB2,sb,hsum]
   rw[make_id hx.1 fx (g:=⟨H.f0,H.f1,H.f2,x.f1.f3,H.f4,x.f1.f5,x.f1.f6,x.f1.f7⟩) hHx.1 hHx.2.1 hHx.2.2 rfl rfl,sb,chkB (by simp;omega),Zc (n:=i+1) (by omega) (by omega)]
   exact ih (pre++[x]) p (some x) _ st x.f0 gp a1 (i+1) (by simp[h1]) (by simp;omega) h2x hrl hst (fun y hy=>by cases hy;exact⟨rfl,rfl⟩) hsg (fun hy=>by cases hy) ha1 hd
  rw[Zl.l0]
  dsimp only
  rw[ht,Zc (n:=1+((l.length:Int)-1)) (by omega) (by omega),if_pos (by simp;omega),err_eq,sb,sb,if_pos (by simp)]
  rcases h2 with ⟨rfl,rfl,rfl⟩ | ⟨y,rfl,rfl,rfl⟩ | ⟨P0,y,w,rfl,rfl,rfl⟩
  ·have hi0:i=0:=by simpa using hi
   subst hi0
   rw[body,List.append_assoc,List.append_assoc] at h
   have c:=Z4y hb (n:=x.f0.toNat) (m:=1099511627776) (by omega) (by omega) ha h
   have l1:=congrArg List.length h
   simp only[List.length_drop,Z1c,List.length_append] at l1
   rw[Int.toNat_of_nonneg hx.2.1] at c
   rw[if_pos (by simp),show Zm.f b (a:Int) 0 1099511627776=_ from c,sb,sb]
   dsimp only
   obtain⟨a1,e1,g1,g2⟩:=s1_0 hb H (lay (allI 0 l)) (lay (allI 1 l)) t (allI 0 l) (allI 1 l) (by omega) (by omega) la [] x.f0 step (body (allI 0 l) (allI 1 l) none (some x) suf++z) (Z10 x.f1 (allI 0 l) (allI 1 l)) [] was (a+(cnt2 x.f0.toNat).length) 0 (by simpa using hrl) (by omega) rfl hru (by omega) (by rw[← List.drop_drop,h,List.drop_left])
   rw[List.nil_append,List.nil_append] at e1
   rw[e1,sb]
   exact fin a1 step _ hs g1 (fun y x' hy=>by cases hy) g2
  ·have hi1:i=1:=by simpa using hi
   subst hi1
   obtain⟨rfl,rfl⟩:=hp y rfl
   have hy:=hc.ok y (by rw[h1];simp)
   have hyx:y.f0<x.f0:=(List.pairwise_append.1 hup).2.2 y (by simp) x (by simp)
   have hyl:=Z35 y.f1 (allI 0 l) (allI 1 l)
   rw[body,List.append_assoc,List.append_assoc] at h
   have c:=Z4y hb (n:=(x.f0-y.f0-1).toNat) (m:=1099511627776) (by omega) (by omega) ha h
   have l1:=congrArg List.length h
   simp only[List.length_drop,Z1c,List.length_append] at l1
   have e0:i64.wrap (i64.wrap (y.f0+1)+((x.f0-y.f0-1).toNat:Int))=x.f0:=by
    rw[Zc (n:=y.f0+1) (by omega) (by omega),Zc (by omega) (by omega)];omega
   rw[if_neg (by simp),if_pos (by simp),show Zm.f b (a:Int) 0 1099511627776=_ from c,sb]
   dsimp only
   rw[sb]
   dsimp only
   rw[sb]
   dsimp only
   rw[e0]
   obtain⟨a1,e1,g1,g2⟩:=s1_1 hb H (lay (allI 0 l)) (lay (allI 1 l)) t (allI 0 l) (allI 1 l) (by omega) (by omega) y.f0 [y] x.f0 (body (allI 0 l) (allI 1 l) (some y) (some x) suf++z) (Z10 x.f1 (allI 0 l) (allI 1 l)) [] (Z10 y.f1 (allI 0 l) (allI 1 l)) step [] (a+(cnt2 (x.f0-y.f0-1).toNat).length) 0 (by simpa using hrl) (by omega) (by omega) rfl rfl hru (by omega) (by rw[← List.drop_drop,h,List.drop_left])
   rw[List.nil_append,List.nil_append,List.nil_append,List.nil_append] at e1
   rw[e1,sb]
   dsimp only
   rw[Zc (n:=x.f0-y.f0) (by omega) (by omega)]
   exact fin a1 _ _ (by rw[Z6c (by omega)];exact hrl) g1 (fun y' x' hy hx=>by cases hy;cases hx;exact⟨rfl,rfl⟩) g2
  ·have hi2:2≤i:=by rw[hi];simp;omega
   obtain⟨rfl,rfl⟩:=hp w rfl
   obtain⟨rfl,rfl⟩:=hq y w rfl rfl
   have hw':=hc.ok w (by rw[h1];simp)
   have hy:=hc.ok y (by rw[h1];simp)
   have hwx:w.f0<x.f0:=(List.pairwise_append.1 hup).2.2 w (by simp) x (by simp)
   have hwl:=Z35 w.f1 (allI 0 l) (allI 1 l)
   have hyl:=Z35 y.f1 (allI 0 l) (allI 1 l)
   rw[body,List.append_assoc,List.append_assoc] at h
   have c:=Z9c hb (x:=x.f0-2*w.f0+y.f0) (by omega) ha h
   have l1:=congrArg List.length h
   simp only[List.length_drop,Z1c,List.length_append] at l1
   have e0:i64.wrap (i64.wrap (w.f0+(w.f0-y.f0))+(x.f0-2*w.f0+y.f0))=x.f0:=by
    rw[Zc (n:=w.f0+(w.f0-y.f0)) (by omega) (by omega),Zc (by omega) (by omega)];omega
   rw[if_neg (by simp;omega),if_neg (by simp;omega),c,sb]
   dsimp only
   rw[sb]
   dsimp only
   rw[sb]
   dsimp only
   rw[e0]
   obtain⟨a1,e1,g1,g2⟩:=s1_2 hb H (lay (allI 0 l)) (lay (allI 1 l)) t (allI 0 l) (allI 1 l) (by omega) (by omega) w.f0 (P0++[y,w]) i x.f0 hi2 (body (allI 0 l) (allI 1 l) (some w) (some x) suf++z) (Z10 x.f1 (allI 0 l) (allI 1 l)) [] (Z10 w.f1 (allI 0 l) (allI 1 l)) (subR (Z10 w.f1 (allI 0 l) (allI 1 l)) (Z10 y.f1 (allI 0 l) (allI 1 l))) [] (a+(intB (x.f0-2*w.f0+y.f0)).length) 0 (by simpa using hrl) (by omega) (by omega) rfl rfl hru (by omega) (by rw[← List.drop_drop,h,List.drop_left])
   rw[List.nil_append,List.nil_append,List.nil_append,List.nil_append] at e1
   rw[e1,sb]
   dsimp only
   rw[Zc (n:=x.f0-w.f0) (by omega) (by omega)]
   exact fin a1 _ _ (by rw[Z6c (by omega)];exact hrl) g1 (fun y' x' hy hx=>by cases hy;cases hx;exact⟨rfl,rfl⟩) g2
end Go.Proofs.YtlclecehlekjoaaGreat.PvGK
set_option linter.unusedVariables false
set_option linter.unusedSimpArgs false
namespace Go.Proofs.YtlclecehlekjoaaGreat.PvGK
open Go Go.Pv Go.Pv.GS Go.IntKind
theorem end_l0 {b:List Int} (hb:Src b):∀ (f a:Nat),a+f=8*b.length→(Z0o b).drop a=List.replicate f false→∃ a':Int,Zw.l0 b (a:Int) 0=some (a',0):=by
 intro f
 have hl:=hb.len
 induction f with
 | zero =>
  intro a ha h
  unfold Zw.l0 Z0m.f
  rw[if_pos (by simp),sb,Zc (n:=(8:Int)*(b.length:Int)) (by omega) (by omega),Zc (by omega) (by omega),sb,if_neg (by simp;omega)]
  exact⟨_,rfl⟩
 | succ f ih =>
  intro a ha h
  have hx:(Z0o b)[a]? = some false:=by
   have:=congrArg (fun l=>l[0]?) h
   simpa[List.replicate_succ] using this
  have hn:(Z0o b).drop (a+1)=List.replicate f false:=by
   have:=congrArg List.tail h
   rw[List.tail_drop,List.replicate_succ,List.tail_cons] at this
   exact this
  unfold Zw.l0 Z0m.f
  rw[if_pos (by simp),sb,Zc (n:=(8:Int)*(b.length:Int)) (by omega) (by omega),Zc (by omega) (by omega),sb,if_pos (by simp;omega),Z93 hb hx,sb]
  dsimp only
  rw[if_neg (by simp),sb]
  exact ih (a+1) (by omega) hn
theorem end_ok {b:List Int} (hb:Src b) {a f:Nat} (hf:f<8) (ha:a≤8*b.length) (h:(Z0o b).drop a=List.replicate f false):∃ a':Int,Zw.f b (a:Int) 0=some (0,a',0):=by
 have hl:=hb.len
 have l1:=congrArg List.length h
 rw[List.length_drop,Z1c,List.length_replicate] at l1
 obtain⟨a',e⟩:=end_l0 hb f a (by omega) h
 unfold Zw.f Z0m.f
 rw[if_pos (by simp),sb,Zc (n:=(8:Int)*(b.length:Int)) (by omega) (by omega),Zc (by omega) (by omega),sb,if_neg (by simp;omega),sb,e,sb]
 exact⟨a',rfl⟩
theorem end_long {b:List Int} (hb:Src b) {a:Nat} (h:a+8≤8*b.length):Zw.f b (a:Int) 0=some (6,(a:Int),6):=by
 have hl:=hb.len
 unfold Zw.f Z0m.f
 rw[if_pos (by simp),sb,Zc (n:=(8:Int)*(b.length:Int)) (by omega) (by omega),Zc (by omega) (by omega),sb,if_pos (by simp;omega),rfail0,sb,sb,Zw.l0,if_neg (by simp),sb,if_neg (by simp),sb]
end Go.Proofs.YtlclecehlekjoaaGreat.PvGK
set_option linter.unusedVariables false
set_option linter.unusedSimpArgs false
set_option maxRecDepth 10000
namespace Go.Proofs.YtlclecehlekjoaaGreat.PvGK
open Go Go.Pv Go.Pv.GS Go.IntKind
theorem eqloop {α:Type} [DecidableEq α] (a b:List α) (hl:a.length=b.length) (ha:a.length<1000000000) (ne:α→α→Bool) (hne:∀ x y,ne x y = !decide (x=y)) (F:Int→Option (Bool ⊕ Unit))
  (hF:∀ i,F i=if(decide (i<(a.length:Int)))=true then((at? a i)>>=fun x=>(at? b i)>>=fun y=>if ne x y=true then(some (.inl false)) else F (i64.wrap (i+(1:Int)))) else(some (.inr ()))) :
  ∀ (sa pa sb' pb:List α) (i:Int),a=pa++sa→b=pb++sb'→pa.length=pb.length→i=(pa.length:Int)→F i=some (if sa=sb' then .inr () else .inl false):=by
 intro sa
 induction sa with
 | nil =>
  intro pa sb' pb i h1 h2 h3 hi
  have e:sb'=[]:=by
   have l1:=congrArg List.length h1
   have l2:=congrArg List.length h2
   simp only[List.length_append,List.length_nil] at l1 l2
   exact List.length_eq_zero_iff.1 (by omega)
  rw[hF,if_neg (by rw[h1];simp[hi]),e,if_pos rfl]
 | cons x sa ih =>
  intro pa sb' pb i h1 h2 h3 hi
  have l1:=congrArg List.length h1
  have l2:=congrArg List.length h2
  simp only[List.length_append,List.length_cons] at l1 l2
  cases sb' with
  | nil=>simp only[List.length_nil] at l2;omega
  | cons y sb' =>
   rw[hF,if_pos (by simp;omega),Z0f h1 hi,sb,Z0f h2 (by omega),sb,hne,Zc (by omega) (by omega)]
   by_cases c:x=y
   ·subst c
    rw[if_neg (by simp),ih (pa++[x]) sb' (pb++[x]) (i+1) (by simp[h1]) (by simp[h2]) (by simp[h3]) (by simp;omega)]
    by_cases c2:sa=sb'
    ·rw[if_pos c2,if_pos (by rw[c2])]
    ·rw[if_neg c2,if_neg (by simp[c2])]
   ·rw[if_pos (by simp[c]),if_neg (by simp[c])]
theorem bkt_ne (x y:Z2):(!((x.f0==y.f0)&&((x.f1==y.f1)&&true))) = !decide (x=y):=by
 obtain⟨a,b⟩:=x;obtain⟨c,d⟩:=y
 by_cases h1:a=c<;>by_cases h2:b=d<;>simp[h1,h2]
theorem rsame_eq (a b:List Z2) (ha:a.length<1000000000):Z2a.f a b=some (decide (a=b)):=by
 unfold Z2a.f
 by_cases hl:a.length=b.length
 ·have L:=eqloop a b hl ha (fun x y => !((x.f0==y.f0)&&((x.f1==y.f1)&&true))) bkt_ne (       Z2a.l0 a b) (fun i=>by rw[       Z2a.l0]) a [] b [] 0 rfl rfl rfl rfl
  rw[if_neg (by simp;omega),L,sb]
  by_cases c:a=b
  ·rw[if_pos c,decide_eq_true c]
  ·rw[if_neg c,decide_eq_false c]
 ·rw[if_pos (by simp;omega),decide_eq_false (fun h=>hl (by rw[h]))]
theorem rSame_eq (a b:Ze) (h6:a.f6.length<1000000000) (h7:a.f7.length<1000000000):Z4e.f a b=some (decide (a=b)):=by
 unfold Z4e.f
 rw[rsame_eq _ _ h6,rsame_eq _ _ h7]
 obtain⟨a0,a1,a2,a3,a4,a5,a6,a7⟩:=a
 obtain⟨b0,b1,b2,b3,b4,b5,b6,b7⟩:=b
 simp only[sb]
 by_cases c0:a0=b0
 case neg=>rw[if_neg (by simpa using c0),sb,decide_eq_false (by simp[c0])]
 by_cases c1:a1=b1
 case neg=>rw[if_pos (by simpa using c0),if_neg (by simpa using c1),sb,decide_eq_false (by simp[c1])]
 by_cases c2:a2=b2
 case neg=>rw[if_pos (by simpa using c0),if_pos (by simpa using c1),if_neg (by simpa using c2),sb,decide_eq_false (by simp[c2])]
 by_cases c3:a3=b3
 case neg=>rw[if_pos (by simpa using c0),if_pos (by simpa using c1),if_pos (by simpa using c2),if_neg (by simpa using c3),sb,decide_eq_false (by simp[c3])]
 by_cases c4:a4=b4
 case neg=>rw[if_pos (by simpa using c0),if_pos (by simpa using c1),if_pos (by simpa using c2),if_pos (by simpa using c3),if_neg (by simpa using c4),sb,decide_eq_false (by simp[c4])]
 by_cases c5:a5=b5
 case neg=>rw[if_pos (by simpa using c0),if_pos (by simpa using c1),if_pos (by simpa using c2),if_pos (by simpa using c3),if_pos (by simpa using c4),if_neg (by simpa using c5),sb,decide_eq_false (by simp[c5])]
 rw[if_pos (by simpa using c0),if_pos (by simpa using c1),if_pos (by simpa using c2),if_pos (by simpa using c3),if_pos (by simpa using c4),if_pos (by simpa using c5)]
 by_cases c6:a6=b6
 case neg=>rw[if_neg (by simpa using c6),sb,decide_eq_false (by simp[c6])]
 by_cases c7:a7=b7
 case neg=>rw[if_pos (by simpa using c6),decide_eq_false c7,sb,decide_eq_false (by simp[c7])]
 rw[if_pos (by simpa using c6),decide_eq_true c7,sb,decide_eq_true (by simp[c0,c1,c2,c3,c4,c5,c6,c7])]
theorem smp_l0' (a b:List Zd) (hl:a.length=b.length) (ha:a.length<1000000000) (hs:∀ s∈a,s.f1.f6.length<1000000000∧s.f1.f7.length<1000000000) :
  ∀ (sa pa sb' pb:List Zd) (i:Int),a=pa++sa→b=pb++sb'→pa.length=pb.length→i=(pa.length:Int)→Z2c.l0 a b i=some (if sa=sb' then .inr () else .inl false):=by
 intro sa
 induction sa with
 | nil =>
  intro pa sb' pb i h1 h2 h3 hi
  have e:sb'=[]:=by
   have l1:=congrArg List.length h1
   have l2:=congrArg List.length h2
   simp only[List.length_append,List.length_nil] at l1 l2
   exact List.length_eq_zero_iff.1 (by omega)
  rw[Z2c.l0,if_neg (by rw[h1];simp[hi]),e,if_pos rfl]
 | cons x sa ih =>
  intro pa sb' pb i h1 h2 h3 hi
  have l1:=congrArg List.length h1
  have l2:=congrArg List.length h2
  simp only[List.length_append,List.length_cons] at l1 l2
  have hx:=hs x (by rw[h1];simp)
  cases sb' with
  | nil=>simp only[List.length_nil] at l2;omega
  | cons y sb' =>
   rw[Z2c.l0,if_pos (by simp;omega),Z0f h1 hi,sb,Z0f h2 (by omega),sb,rSame_eq _ _ hx.1 hx.2,sb,Zc (by omega) (by omega)]
   have e:((if(x.f0 != y.f0)=true then(some true) else(some (!decide (x.f1=y.f1)))):Option Bool)=some (!decide (x=y)):=by
    obtain⟨a,b⟩:=x;obtain⟨c,d⟩:=y
    by_cases h1:a=c<;>by_cases h2:b=d<;>simp[h1,h2]
   rw[e,sb]
   by_cases c:x=y
   ·subst c
    rw[if_neg (by simp),ih (pa++[x]) sb' (pb++[x]) (i+1) (by simp[h1]) (by simp[h2]) (by simp[h3]) (by simp;omega)]
    by_cases c2:sa=sb'
    ·rw[if_pos c2,if_pos (by rw[c2])]
    ·rw[if_neg c2,if_neg (by simp[c2])]
   ·rw[if_pos (by simp[c]),if_neg (by simp[c])]
theorem same9_eq (a b:List Zd) (ha:a.length<1000000000) (hs:∀ s∈a,s.f1.f6.length<1000000000∧s.f1.f7.length<1000000000):Z2c.f a b=some (decide (a=b)):=by
 unfold Z2c.f
 by_cases hl:a.length=b.length
 ·rw[if_neg (by simp;omega),smp_l0' a b hl ha hs a [] b [] 0 rfl rfl rfl rfl,sb]
  by_cases c:a=b
  ·rw[if_pos c,decide_eq_true c]
  ·rw[if_neg c,decide_eq_false c]
 ·rw[if_pos (by simp;omega),decide_eq_false (fun h=>hl (by rw[h]))]
theorem byte_ne (x y:Int):(x != y) = !decide (x=y):=by
 by_cases h:x=y<;>simp[h]
theorem eqbytes (a b:List Int) (ha:a.length<1000000000):Z0h.f a b=some (decide (a=b)):=by
 unfold Z0h.f
 by_cases hl:a.length=b.length
 ·have L:=eqloop a b hl ha (fun x y=>x != y) byte_ne (                Z0h.l0 a b) (fun i=>by rw[                Z0h.l0]) a [] b [] 0 rfl rfl rfl rfl
  rw[if_neg (by simp;omega),L,sb]
  by_cases c:a=b
  ·rw[if_pos c,decide_eq_true c]
  ·rw[if_neg c,decide_eq_false c]
 ·rw[if_pos (by simp;omega),decide_eq_false (fun h=>hl (by rw[h]))]
end Go.Proofs.YtlclecehlekjoaaGreat.PvGK
set_option linter.unusedVariables false
set_option linter.unusedSimpArgs false
set_option maxRecDepth 10000
namespace Go.Proofs.YtlclecehlekjoaaGreat.PvGK
open Go Go.Pv Go.Pv.GS Go.IntKind
variable {b:List Int}
structure HOk (h:Ze):Prop where
 fits:Fits h
 pos:h.f6.length≤512
 neg:h.f7.length≤512
theorem HOk.zero:HOk (⟨0,0,0,0,0,0,[],[]⟩:Ze):=⟨⟨by decide,by decide,by decide,by decide,by decide,by decide,by simp,by simp⟩,by simp,by simp⟩
theorem get_fwd (hb:Src b) {a k:Nat} {s z:List Bool} (hk:k≤64) (hs:s.length=k) (ha:a≤8*b.length) (h:(Z0o b).drop a=s++z):Zk.f b (a:Int) 0 (k:Int)=some (((val s:Nat):Int),((a+k:Nat):Int),0):=by
 have l1:=congrArg List.length h
 simp only[List.length_drop,Z1c,List.length_append] at l1
 rcases get_spec hb hk ha with ⟨_,h2⟩ | ⟨h1,_⟩
 ·rw[h2,h,List.take_left' hs]
 ·omega
theorem dec_fwd (hb:Src b) {l:List Zd} (hc:COk l) (hne:l≠[]) (hk:∀ s∈l,HOk s.f1) (h0:Z0k.f l=some 0) (z:List Bool) (h:Z0o b=Z57 l++z) :
  (8≤z.length→Z1w.f b=some ([],6))∧(∀ f,f<8→z=List.replicate f false→Z1w.f b=some (l,0)):=by
 have hF:∀ s∈l,Fits s.f1:=fun s hs=>(hk s hs).fits
 obtain⟨iP,iN⟩:=hc.ids hF
 have lP:=hc.pos
 have lN:=hc.neg
 have h32:=hc.len
 have hbl:=hb.len
 obtain⟨s,r,hl⟩:∃ s r,l=s::r:=by
  cases l with
  | nil=>exact absurd rfl hne
  | cons s r=>exact⟨s,r,rfl⟩
 have hs:=hc.ok s (by rw[hl];simp)
 have fs:=hF s (by rw[hl];simp)
 have hsch:=hs.1.schema
 have hs1:=hsch.1
 have hs2:=hsch.2
 have hz:=hs.1.zero
 have hkd:=hs.1.kind
 have hcb:Z57 l=[s.f1.f0==1]++(nb (s.f1.f1+4).toNat 4++(intB s.f1.f2++(lyB (lay (allI 0 l))++(lyB (lay (allI 1 l))++(cnt2 (l.length-1)++body (allI 0 l) (allI 1 l) none none l))))):=by rw[hl];rfl
 have d0:Z0o b=[s.f1.f0==1]++(nb (s.f1.f1+4).toNat 4++(intB s.f1.f2++(lyB (lay (allI 0 l))++(lyB (lay (allI 1 l))++(cnt2 (l.length-1)++(body (allI 0 l) (allI 1 l) none none l++z)))))):=by
  rw[h,hcb];simp
 have lb:=congrArg List.length d0
 simp only[Z1c,List.length_append,Z40,List.length_singleton] at lb
 have x0:(Z0o b)[0]? = some (s.f1.f0==1):=by rw[d0];rfl
 have E1:=Z93 hb x0
 have d1:(Z0o b).drop 1=nb (s.f1.f1+4).toNat 4++(intB s.f1.f2++(lyB (lay (allI 0 l))++(lyB (lay (allI 1 l))++(cnt2 (l.length-1)++(body (allI 0 l) (allI 1 l) none none l++z))))):=by rw[d0];rfl
 have E2:=get_fwd hb (k:=4) (by omega) (Z40 _ _) (by omega) d1
 rw[val_nb,Nat.mod_eq_of_lt (by omega)] at E2
 have d2:(Z0o b).drop (1+4)=intB s.f1.f2++(lyB (lay (allI 0 l))++(lyB (lay (allI 1 l))++(cnt2 (l.length-1)++(body (allI 0 l) (allI 1 l) none none l++z)))):=by rw[← List.drop_drop,d1,List.drop_left' (Z40 _ _)]
 have E3:=Z9c hb (x:=s.f1.f2) (by omega) (by omega) d2
 have d3:(Z0o b).drop (1+4+(intB s.f1.f2).length)=lyB (lay (allI 0 l))++(lyB (lay (allI 1 l))++(cnt2 (l.length-1)++(body (allI 0 l) (allI 1 l) none none l++z))):=by rw[← List.drop_drop,d2,List.drop_left]
 obtain⟨a4,E4,g4,d4⟩:=tk_fwd hb iP lP (by omega) _ d3
 obtain⟨a5,E5,g5,d5⟩:=tk_fwd hb iN lN g4 _ d4
 have E6:=Z4y hb (n:=l.length-1) (m:=31) (by omega) (by omega) g5 d5
 have l5:=congrArg List.length d5
 simp only[List.length_drop,Z1c,List.length_append] at l5
 have d6:(Z0o b).drop (a5+(cnt2 (l.length-1)).length)=body (allI 0 l) (allI 1 l) none none l++z:=by rw[← List.drop_drop,d5,List.drop_left]
 have hll:1≤l.length:=by rw[hl];simp
 have hK:((if(s.f1.f0==1)=true then(some 1) else(some 0)):Option (Int))=some s.f1.f0:=by
  rcases hkd with e | e<;>rw[e]<;>rfl
 have hsc:i64.wrap ((i64.wrap (((s.f1.f1+4).toNat:Nat):Int))+(-4))=s.f1.f1:=by
  rw[Zc (n:=(((s.f1.f1+4).toNat:Nat):Int)) (by omega) (by omega),Zc (by omega) (by omega)];omega
 have hat:((if(decide (s.f1.f2<(-524288)))=true then(some true) else(some (decide (s.f1.f2>(262144:Int))))):Option (Bool))=some false:=by
  rw[if_neg (by simp;omega)];simp;omega
 obtain⟨a7,E7,g7,d7⟩:=smp_l0 hb hc hF (⟨s.f1.f0,s.f1.f1,s.f1.f2,0,0,0,[],[]⟩:Ze) (fun x hx=>hc.head s (by rw[hl];simp) x hx) (((l.length-1:Nat):Int),((a5+(cnt2 (l.length-1)).length:Nat):Int),0) (by dsimp only;omega) z l [] none none (List.replicate (Int.toNat ((2+(allI 0 l).length+(allI 1 l).length:Nat):Int)) 0) (List.replicate (Int.toNat ((2+(allI 0 l).length+(allI 1 l).length:Nat):Int)) 0) 0 0 (a5+(cnt2 (l.length-1)).length) 0 rfl rfl (.inl ⟨rfl,rfl,rfl⟩) (by rw[List.length_replicate,Int.toNat_natCast]) (by rw[List.length_replicate,Int.toNat_natCast]) (fun x hx=>by cases hx) (fun y x hy=>by cases hy) (fun _=>rfl) (by omega) d6
 have ES:Zl.f b (a5:Int) 0 (⟨s.f1.f0,s.f1.f1,s.f1.f2,0,0,0,[],[]⟩:Ze) (lay (allI 0 l)) (lay (allI 1 l))=some (l,(a7:Int),0):=by
  unfold Zl.f
  rw[show Zm.f b (a5:Int) 0 31=_ from E6,sb,Z5x iP.sm (by omega),sb,Z5x iN.sm (by omega),sb,Z6u (by omega) (by omega),chkB (by omega)]
  dsimp only
  rw[E7,sb]
 have l7:=congrArg List.length d7
 rw[List.length_drop,Z1c] at l7
 have pre:Z1w.f b=((Zw.f b (a7:Int) 0)>>=fun t3478=>if(t3478.1 != (0:Int))=true then(some ([],6)) else((Zs.f l)>>=fun t3483=>((if(t3483.2 != (0:Int))=true then(some true) else((Z0h.f t3483.1 b)>>=fun t3521=>some (!t3521))):Option (Bool))>>=fun x3523=>if x3523=true then(some ([],6)) else(some (l,0)))):=by
  unfold Z1w.f Z4g.f
  rw[sb,show Zx.f b 0 0=_ from E1,sb]
  dsimp only
  rw[hK,sb,show Zk.f b ((0+1:Nat):Int) 0 4=_ from E2,sb]
  dsimp only
  rw[E3,sb]
  dsimp only
  rw[hat,sb,if_neg (by simp),E4,sb]
  dsimp only
  rw[E5,sb]
  dsimp only
  rw[hsc,ES,sb]
 constructor
 ·intro h8
  rw[pre,end_long hb (by omega),sb,if_pos (by simp)]
 ·intro f hf hzf
  rw[hzf] at d7
  obtain⟨a',E⟩:=end_ok hb hf g7 d7
  obtain⟨y,f',EY,hY⟩:=enc_eq hc hne hF h0
  have hY2:Laid b f (Z57 l):=⟨hb.byte,hf,by rw[h,hzf]⟩
  have:=hY.unique hY2
  subst this
  rw[pre,E,sb,if_neg (by simp),EY,sb,if_neg (by simp),eqbytes y y (by omega),sb,sb,if_neg (by simp)]
end Go.Proofs.YtlclecehlekjoaaGreat.PvGK
set_option linter.unusedVariables false
set_option linter.unusedSimpArgs false
set_option maxRecDepth 100000
namespace Go.Proofs.YtlclecehlekjoaaGreat.PvGK
open Go Go.Pv Go.Pv.GS Go.IntKind
theorem awake9:Z28.f=some true:=by cbv
theorem light9_l0 (l:List Zd) (hl:l.length<1000000000000000):∀ (suf pre:List Zd) (x i:Int),l=pre++suf→i=(pre.length:Int)→∃ r,Z27.l0 l x i=some r:=by
 intro suf
 induction suf with
 | nil=>intro pre x i h1 hi;rw[Z27.l0,if_neg (by rw[h1];simp[hi])];exact⟨_,rfl⟩
 | cons s suf ih =>
  intro pre x i h1 hi
  have hlen:l.length=pre.length+(suf.length+1):=by rw[h1];simp
  rw[Z27.l0,if_pos (by simp;omega),Z0f h1 hi,sb,Zc (n:=i+1) (by omega) (by omega)]
  exact ih (pre++[s]) _ (i+1) (by simp[h1]) (by simp;omega)
theorem light9 (l:List Zd) (hl:l.length<1000000000000000):∃ g,Z27.f l=some g:=by
 unfold Z27.f
 obtain⟨r,e⟩:=light9_l0 l hl l [] 0 0 rfl rfl
 rw[e,sb];exact⟨_,rfl⟩
theorem enc_any (l:List Zd) (hl:l.length≤140737488351232) (hR:∀ s∈l,RSample s):∃ (x:List Int) (e:Int),Zs.f l=some (x,e)∧Z0k.f l=some e∧Z1k.f l=some e∧(e≠0→x=[]) ∧
  (e=0→COk l∧l≠[]∧(∀ s∈l,HOk s.f1)∧∃ f,Laid x f (Z57 l)):=by
 obtain⟨e,e1,e2,e3⟩:=chk_eq l (by omega) (fun s hs=>⟨fits_of (hR s hs).r1,by have:=(hR s hs).r1.r6.1;omega,by have:=(hR s hs).r1.r7.1;omega⟩)
 by_cases he:e=0
 ·subst he
  obtain⟨hc,hne⟩:=e3 rfl
  have hk:∀ s∈l,HOk s.f1:=fun s hs=>⟨fits_of (hR s hs).r1,(hc.ok s hs).1.pos.len,(hc.ok s hs).1.neg.len⟩
  obtain⟨x,f,E,h⟩:=enc_eq hc hne (fun s hs=>(hk s hs).fits) e1
  exact⟨x,0,E,e1,e2,by simp,fun _=>⟨hc,hne,hk,f,h⟩⟩
 ·refine⟨[],e,?_,e1,e2,fun _=>rfl,fun h=>absurd h he⟩
  unfold Zs.f
  rw[e1,sb,if_pos (by simpa using he)]
theorem laid_src {x:List Int} {f:Nat} {l:List Zd} (h:Laid x f (Z57 l)) (hc:COk l) (hk:∀ s∈l,HOk s.f1):Src x∧x.length≤400000:=by
 have h1:=h.len
 have h2:=h.lt
 have h3:=Z84 hc (fun s hs=>(hk s hs).fits)
 exact⟨⟨h.byte,by omega⟩,by omega⟩
end Go.Proofs.YtlclecehlekjoaaGreat.PvGK
set_option linter.unusedVariables false
set_option linter.unusedSimpArgs false
set_option maxRecDepth 10000
namespace Go.Proofs.YtlclecehlekjoaaGreat.PvGK
open Go Go.Pv Go.Pv.GS Go.IntKind
theorem Z9s (l:List Zd) (hl:l.length≤140737488351232∧∀ y∈l,RSample y):Z2q.f l=some true:=by
 obtain⟨hl0,hR⟩:=hl
 unfold Z2q.f
 obtain⟨g,eg⟩:=light9 l (by omega)
 rw[eg,sb]
 cases g with
 | false=>rw[if_pos (show(!false)=true from rfl),awake9,sb]
 | true =>
  obtain⟨x,e,E,C,R,h0,h1⟩:=enc_any l hl0 hR
  rw[if_neg (by simp),R,sb,E,sb,C,sb,if_neg (by simp),sb]
  dsimp only
  rw[if_neg (by simp)]
  by_cases he:e=0
  case neg =>
   rw[if_pos (by simpa using he),awake9,sb,if_pos rfl,sb,h0 he]
   rfl
  obtain⟨hc,hne,hk,f,hL⟩:=h1 he
  subst he
  obtain⟨hs,hsl⟩:=laid_src hL hc hk
  have hd:=(dec_fwd hs hc hne hk C (List.replicate f false) hL.bits).2 f hL.lt rfl
  obtain⟨y,f2,EY,hY⟩:=renc_eq hc hne (fun s hs=>(hk s hs).fits)
  have:=hL.unique hY
  subst this
  have h32:=hc.len
  rw[if_neg (by simp),hd,sb,awake9,sb,if_pos rfl,EY,sb,if_pos (by simp)]
  dsimp only
  rw[if_pos (by simp),same9_eq l l (by omega) (fun s hs=>by have:=(hk s hs).pos;have:=(hk s hs).neg;omega),sb,sb,decide_eq_true rfl]
end Go.Proofs.YtlclecehlekjoaaGreat.PvGK
