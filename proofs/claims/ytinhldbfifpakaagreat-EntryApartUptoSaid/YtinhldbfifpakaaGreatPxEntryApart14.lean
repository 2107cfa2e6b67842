import Derived.Test.YtinhldbfifpakaaGreatPxEntryApart13
set_option linter.unusedVariables false
set_option linter.unusedSimpArgs false
set_option maxRecDepth 10000
namespace Go.Proofs.YtinhldbfifpakaaGreat.PvGL
open Go Go.Pv Go.Pv.GS Go.IntKind
variable {b:List Int}
theorem Z5u {p n:Nat} (hp:p≤1000000) (hn:n≤1000000):i64.wrap (i64.wrap ((2:Int)+(p:Int))+(n:Int))=((2+p+n:Nat):Int):=by
 rw[Zf (n:=(2:Int)+(p:Int)) (by omega) (by omega),Zf (by omega) (by omega)];omega
theorem s1_0 (hb:Src b) (H:Z06) (L M:Zd) (t:Int×Int×Int) (P N:List Int) (hP:P.length≤1000000) (hN:N.length≤1000000) (la:Int) (o:List Ze) (tm:Int) (step:List Int) (z:List Bool) :
  ∀ (sn pn sx:List Int) (a:Nat) (k:Int),pn.length+sn.length=2+P.length+N.length→sx.length=sn.length→k=(pn.length:Int)→(∀ n∈sn,U64 n)→a≤8*b.length→(Zz b).drop a=row0 sn++z →
  ∃ a':Nat,Zn.l1 b H L M t P N la o 0 tm (a:Int) 0 (pn++sx) step k=some ((a':Int),0,pn++sn,step)∧a'≤8*b.length∧(Zz b).drop a'=z:=by
 intro sn
 induction sn with
 | nil =>
  intro pn sx a k h1 h2 hk _ ha h
  have hsx:sx=[]:=List.length_eq_zero_iff.1 (by simpa using h2)
  subst hsx
  rw[Zn.l1,Z5u hP hN,if_neg (by simp at h1 ⊢;omega)]
  exact⟨a,rfl,ha,by simpa[row0] using h⟩
 | cons n sn ih =>
  intro pn sx a k h1 h2 hk hu ha h
  cases sx with
  | nil=>simp at h2
  | cons x sx =>
   simp only[List.length_cons] at h1 h2
   have hn:=hu n (by simp)
   rw[row0_cons,List.append_assoc] at h
   have c:=Zc8 hb (n:=n.toNat) (by have:=hn.1;have:=hn.2;omega) ha h
   have l1:=congrArg List.length h
   simp only[List.length_drop,Z0j,List.length_append] at l1
   rw[Int.toNat_of_nonneg hn.1] at c
   rw[Zn.l1,Z5u hP hN,if_pos (by simp;omega),if_pos (by simp),c,sb,Z5l pn x sx hk,sb,sb]
   dsimp only
   rw[Z7j pn x n sx hk,Zf (n:=k+1) (by omega) (by omega)]
   obtain⟨a',e,g1,g2⟩:=ih (pn++[n]) sx (a+(cnt2 n.toNat).length) (k+1) (by simp;omega) (by omega) (by simp;omega) (fun m hm=>hu m (by simp[hm])) (by omega) (by rw[← List.drop_drop,h,List.drop_left])
   rw[List.append_assoc,List.singleton_append,List.append_assoc,List.singleton_append] at e
   exact⟨a',e,g1,g2⟩
theorem back1 {n w:Int} (hn:U64 n):u64.wrap (w+u64.wrap (i64.wrap (u64.wrap (n-w))))=n:=by
 have:=hn.1;have:=hn.2
 simp only[Z5m,Z5t];omega
theorem s1_1 (hb:Src b) (H:Z06) (L M:Zd) (t:Int×Int×Int) (P N:List Int) (hP:P.length≤1000000) (hN:N.length≤1000000) (la:Int) (o:List Ze) (tm:Int) (z:List Bool) :
  ∀ (sn pn sw ss ps:List Int) (a:Nat) (k:Int),pn.length+sn.length=2+P.length+N.length→sw.length=sn.length→ss.length=sn.length→ps.length=pn.length→k=(pn.length:Int)→(∀ n∈sn,U64 n)→a≤8*b.length→(Zz b).drop a=row1 sn sw++z →
  ∃ a':Nat,Zn.l1 b H L M t P N la o 1 tm (a:Int) 0 (pn++sw) (ps++ss) k=some ((a':Int),0,pn++sn,ps++subR sn sw)∧a'≤8*b.length∧(Zz b).drop a'=z:=by
 intro sn
 induction sn with
 | nil =>
  intro pn sw ss ps a k h1 h2 h3 h4 hk _ ha h
  have hsw:sw=[]:=List.length_eq_zero_iff.1 (by simpa using h2)
  have hss:ss=[]:=List.length_eq_zero_iff.1 (by simpa using h3)
  subst hsw;subst hss
  rw[Zn.l1,Z5u hP hN,if_neg (by simp at h1 ⊢;omega)]
  exact⟨a,by simp[subR],ha,by simpa[row1] using h⟩
 | cons n sn ih =>
  intro pn sw ss ps a k h1 h2 h3 h4 hk hu ha h
  cases sw with
  | nil=>simp at h2
  | cons w sw =>
   cases ss with
   | nil=>simp at h3
   | cons v ss =>
    simp only[List.length_cons] at h1 h2 h3
    have hn:=hu n (by simp)
    rw[Z92,List.append_assoc] at h
    have c:=Zby hb (Z80 (u64.wrap (n-w))) ha h
    have l1:=congrArg List.length h
    simp only[List.length_drop,Z0j,List.length_append] at l1
    have hst:u64.wrap (i64.wrap (u64.wrap (n-w)))=u64.wrap (n-w):=by simp only[Z5m,Z5t];omega
    have hbk:=back1 (w:=w) hn
    rw[hst] at hbk
    rw[Zn.l1,Z5u hP hN,if_pos (by simp;omega),if_neg (by simp),if_pos (by simp),c,sb,Z5l ps v ss (by omega),sb,Z5l pn w sw hk,sb]
    dsimp only
    rw[Z7j ps v _ ss (by omega),Z5l ps _ ss (by omega),sb,sb]
    dsimp only
    rw[sb]
    dsimp only
    rw[Z7j pn w _ sw hk,hst,hbk,Zf (n:=k+1) (by omega) (by omega)]
    obtain⟨a',e,g1,g2⟩:=ih (pn++[n]) sw ss (ps++[u64.wrap (n-w)]) (a+(intB (i64.wrap (u64.wrap (n-w)))).length) (k+1) (by simp;omega) (by omega) (by omega) (by simp;omega) (by simp;omega) (fun m hm=>hu m (by simp[hm])) (by omega) (by rw[← List.drop_drop,h,List.drop_left])
    rw[List.append_assoc,List.singleton_append,List.append_assoc,List.singleton_append,List.append_assoc,List.singleton_append,List.append_assoc,List.singleton_append] at e
    exact⟨a',by rw[Z6k];exact e,g1,g2⟩
theorem s1_2 (hb:Src b) (H:Z06) (L M:Zd) (t:Int×Int×Int) (P N:List Int) (hP:P.length≤1000000) (hN:N.length≤1000000) (la:Int) (o:List Ze) (i tm:Int) (hi:2≤i) (z:List Bool) :
  ∀ (sn pn sw ss ps:List Int) (a:Nat) (k:Int),pn.length+sn.length=2+P.length+N.length→sw.length=sn.length→ss.length=sn.length→ps.length=pn.length→k=(pn.length:Int)→(∀ n∈sn,U64 n)→a≤8*b.length→(Zz b).drop a=row1 (subR sn sw) ss++z →
  ∃ a':Nat,Zn.l1 b H L M t P N la o i tm (a:Int) 0 (pn++sw) (ps++ss) k=some ((a':Int),0,pn++sn,ps++subR sn sw)∧a'≤8*b.length∧(Zz b).drop a'=z:=by
 intro sn
 induction sn with
 | nil =>
  intro pn sw ss ps a k h1 h2 h3 h4 hk _ ha h
  have hsw:sw=[]:=List.length_eq_zero_iff.1 (by simpa using h2)
  have hss:ss=[]:=List.length_eq_zero_iff.1 (by simpa using h3)
  subst hsw;subst hss
  rw[Zn.l1,Z5u hP hN,if_neg (by simp at h1 ⊢;omega)]
  exact⟨a,by simp[subR],ha,by simpa[row1,subR] using h⟩
 | cons n sn ih =>
  intro pn sw ss ps a k h1 h2 h3 h4 hk hu ha h
  cases sw with
  | nil=>simp at h2
  | cons w sw =>
   cases ss with
   | nil=>simp at h3
   | cons v ss =>
    simp only[List.length_cons] at h1 h2 h3
    have hn:=hu n (by simp)
    rw[Z6k,Z92,List.append_assoc] at h
    have c:=Zby hb (Z80 (u64.wrap (u64.wrap (n-w)-v))) ha h
    have l1:=congrArg List.length h
    simp only[List.length_drop,Z0j,List.length_append] at l1
    have hst:u64.wrap (v+u64.wrap (i64.wrap (u64.wrap (u64.wrap (n-w)-v))))=u64.wrap (n-w):=by simp only[Z5m,Z5t];omega
    have hbk:u64.wrap (w+u64.wrap (n-w))=n:=by
     have:=hn.1;have:=hn.2
     simp only[Z5m];omega
    rw[Zn.l1,Z5u hP hN,if_pos (by simp;omega),if_neg (by simp;omega),if_neg (by simp;omega),Z5l ps v ss (by omega),sb,c,sb,Z5l pn w sw hk,sb]
    dsimp only
    rw[Z7j ps v _ ss (by omega),Z5l ps _ ss (by omega),sb,sb]
    dsimp only
    rw[sb]
    dsimp only
    rw[Z7j pn w _ sw hk,hst,hbk,Zf (n:=k+1) (by omega) (by omega)]
    obtain⟨a',e,g1,g2⟩:=ih (pn++[n]) sw ss (ps++[u64.wrap (n-w)]) (a+(intB (i64.wrap (u64.wrap (u64.wrap (n-w)-v)))).length) (k+1) (by simp;omega) (by omega) (by omega) (by simp;omega) (by simp;omega) (fun m hm=>hu m (by simp[hm])) (by omega) (by rw[← List.drop_drop,h,List.drop_left])
    rw[List.append_assoc,List.singleton_append,List.append_assoc,List.singleton_append,List.append_assoc,List.singleton_append,List.append_assoc,List.singleton_append] at e
    exact⟨a',by rw[Z6k];exact e,g1,g2⟩
theorem make_id {h g:Z06} (v:Z3r h) (f:Fits h) (e0:g.f0=h.f0) (e1:g.f1=h.f1) (e2:g.f2=h.f2) (e3:g.f3=h.f3) (e5:g.f5=h.f5):Z1t.f g h.f6 h.f7=some (h,0):=by
 have m0:=v.pos.len
 have m1:=v.neg.len
 have ht:=v.total
 have t1:=tidy_id h.f6 (by omega) (fun y hy=>(f.pos y hy).2) v.pos.canon
 have t2:=tidy_id h.f7 (by omega) (fun y hy=>(f.neg y hy).2) v.neg.canon
 have t3:=total3 h.f6 h.f7 h.f3 (by omega) (by omega) (fun y hy=>(f.pos y hy).2) (fun y hy=>(f.neg y hy).2) f.zero
 rw[if_pos ht,← v.count] at t3
 unfold Z1t.f
 rw[t1,sb,t2,sb,if_neg (by simp),e3,t3,sb,if_neg (by simp),e0,e1,e2,e5]
 dsimp only
 rw[show Z0q.f (⟨h.f0,h.f1,h.f2,h.f3,h.f4,h.f5,h.f6,h.f7⟩:Z06)=_ from check_T h f v,sb,if_neg (by simp)]
theorem cut_p (h:Z06) (P N:List Int):((Z27 h P N).drop (Int.toNat (2:Int))).take (Int.toNat (((2+P.length:Nat):Int))-Int.toNat (2:Int))=P.map (tot h.f6):=by
 have e:(Z27 h P N).drop 2=P.map (tot h.f6)++N.map (tot h.f7):=by unfold Z27;simp
 rw[show Int.toNat (2:Int)=2 from rfl,e,Int.toNat_natCast,Nat.add_sub_cancel_left,List.take_left' (by simp)]
theorem cut_n (h:Z06) (P N:List Int):((Z27 h P N).drop (Int.toNat (((2+P.length:Nat):Int)))).take (Int.toNat (((Z27 h P N).length:Int))-Int.toNat (((2+P.length:Nat):Int)))=N.map (tot h.f7):=by
 have e:(Z27 h P N).drop (2+P.length)=N.map (tot h.f7):=by
  unfold Z27
  rw[List.drop_left' (by simp;omega)]
 rw[Int.toNat_natCast,Int.toNat_natCast,e,Z4m]
 exact List.take_of_length_le (by simp)
theorem smp_l0 (hb:Src b) {l:List Ze} (hc:COk l) (hF:∀ s∈l,Fits s.f1) (H:Z06) (hH:∀ s∈l,H.f0=s.f1.f0∧H.f1=s.f1.f1∧H.f2=s.f1.f2) (t:Int×Int×Int) (ht:t.1=(l.length:Int)-1) (z:List Bool) :
  ∀ (suf pre:List Ze) (q p:Option Ze) (was step:List Int) (la gap:Int) (a:Nat) (i:Int),l=pre++suf→i=(pre.length:Int)→Two pre q p→was.length=2+(allI 0 l).length+(allI 1 l).length→step.length=2+(allI 0 l).length+(allI 1 l).length →
  (∀ x,p=some x→was=Z27 x.f1 (allI 0 l) (allI 1 l)∧la=x.f0)→(∀ y x,q=some y→p=some x→step=subR (Z27 x.f1 (allI 0 l) (allI 1 l)) (Z27 y.f1 (allI 0 l) (allI 1 l))∧gap=x.f0-y.f0)→(p=none→la=0) →
  a≤8*b.length→(Zz b).drop a=body (allI 0 l) (allI 1 l) q p suf++z →
  ∃ a':Nat,Zn.l0 b H (lay (allI 0 l)) (lay (allI 1 l)) t (allI 0 l) (allI 1 l) ((a:Int),0,was,step,la,gap,pre,i)=some (l,(a':Int),0)∧a'≤8*b.length∧(Zz b).drop a'=z:=by
 obtain⟨iP,iN⟩:=hc.ids hF
 have lP:=hc.pos
 have lN:=hc.neg
 have h32:=hc.len
 intro suf
 induction suf with
 | nil =>
  intro pre q p was step la gap a i h1 hi h2 hw hs hp hq hn ha h
  rw[List.append_nil] at h1
  subst h1
  rw[Zn.l0]
  dsimp only
  rw[ht,Zf (by omega) (by omega),if_neg (by simp;omega),sb,if_neg (by simp)]
  exact⟨a,rfl,ha,by cases q<;>cases p<;>simpa[body] using h⟩
 | cons x suf ih =>
  intro pre q p was step la gap a i h1 hi h2 hw hs hp hq hn ha h
  have hlen:l.length=pre.length+(suf.length+1):=by rw[h1];simp
  have hx:=hc.ok x (by rw[h1];simp)
  have fx:=hF x (by rw[h1];simp)
  have hHx:=hH x (by rw[h1];simp)
  have hrl:=Z4m x.f1 (allI 0 l) (allI 1 l)
  have hru:=rows_u64 hx.1 fx (allI 0 l) (allI 1 l)
  have hup:=hc.up
  rw[h1] at hup
  have h2x:=h2.next x
  have hbkP:bks (allI 0 l) ((allI 0 l).map (tot x.f1.f6))=x.f1.f6:=bks_self iP.1 hx.1.pos.canon (fun y hy=>(allI_mem 0 y.f0 l).2 ⟨x,by rw[h1];simp,List.mem_map.2 ⟨y,hy,rfl⟩⟩)
  have hbkN:bks (allI 1 l) ((allI 1 l).map (tot x.f1.f7))=x.f1.f7:=bks_self iN.1 hx.1.neg.canon (fun y hy=>(allI_mem 1 y.f0 l).2 ⟨x,by rw[h1];simp,List.mem_map.2 ⟨y,hy,rfl⟩⟩)
  have hB1:=Z84 (Z77 iP.sm (by omega)) (by omega) (c:=(allI 0 l).map (tot x.f1.f6)) (by simp)
  have hB2:=Z84 (Z77 iN.sm (by omega)) (by omega) (c:=(allI 1 l).map (tot x.f1.f7)) (by simp)
  rw[hbkP] at hB1
  rw[hbkN] at hB2
  have hsum:i64.wrap (u64.wrap x.f1.f5)=x.f1.f5:=by
   have:=fx.sum.1;have:=fx.sum.2
   simp only[Z5m,Z5t];omega
  have w2:i64.wrap ((2:Int)+((allI 0 l).length:Int))=((2+(allI 0 l).length:Nat):Int):=by rw[Zf (by omega) (by omega)];omega
  have fin:∀ (a1:Nat) (st:List Int) (gp:Int),st.length=2+(allI 0 l).length+(allI 1 l).length→a1≤8*b.length→(∀ y x',p=some y→some x=some x'→st=subR (Z27 x'.f1 (allI 0 l) (allI 1 l)) (Z27 y.f1 (allI 0 l) (allI 1 l))∧gp=x'.f0-y.f0)→(Zz b).drop a1=body (allI 0 l) (allI 1 l) p (some x) suf++z →
    ∃ a':Nat,((at? (Z27 x.f1 (allI 0 l) (allI 1 l)) 0)>>=fun b3364=>(at? (Z27 x.f1 (allI 0 l) (allI 1 l)) 1)>>=fun b3367=>(chk (0≤(2:Int)∧(2:Int)≤(i64.wrap ((2:Int)+((allI 0 l).length:Int)))∧(i64.wrap ((2:Int)+((allI 0 l).length:Int)))≤((Z27 x.f1 (allI 0 l) (allI 1 l)).length:Int)))>>=fun _=>(Z1g.f (lay (allI 0 l)) (((Z27 x.f1 (allI 0 l) (allI 1 l)).drop (Int.toNat (2:Int))).take (Int.toNat (i64.wrap ((2:Int)+((allI 0 l).length:Int)))-Int.toNat (2:Int))))>>=fun t3377=>(chk (0≤(i64.wrap ((2:Int)+((allI 0 l).length:Int)))∧(i64.wrap ((2:Int)+((allI 0 l).length:Int)))≤((Z27 x.f1 (allI 0 l) (allI 1 l)).length:Int)∧((Z27 x.f1 (allI 0 l) (allI 1 l)).length:Int)≤((Z27 x.f1 (allI 0 l) (allI 1 l)).length:Int)))>>=fun _=>(Z1g.f (lay (allI 1 l)) (((Z27 x.f1 (allI 0 l) (allI 1 l)).drop (Int.toNat (i64.wrap ((2:Int)+((allI 0 l).length:Int))))).take (Int.toNat ((Z27 x.f1 (allI 0 l) (allI 1 l)).length:Int)-Int.toNat (i64.wrap ((2:Int)+((allI 0 l).length:Int))))))>>=fun t3380=>(Z1t.f (⟨H.f0,H.f1,H.f2,b3364,H.f4,i64.wrap (b3367),t3377,t3380⟩:Z06) t3377 t3380)>>=fun t3386=>(chk ((pre.length+[(⟨x.f0,(t3386.1)⟩:Ze)].length)*104≤140737488355328))>>=fun _=>Zn.l0 b H (lay (allI 0 l)) (lay (allI 1 l)) t (allI 0 l) (allI 1 l) ((a1:Int),0,Z27 x.f1 (allI 0 l) (allI 1 l),st,x.f0,gp,pre++[(⟨x.f0,(t3386.1)⟩:Ze)],i64.wrap (i+(1:Int))))=some (l,(a':Int),0)∧a'≤8*b.length∧(Zz b).drop a'=z:=by
   intro a1 st gp hst ha1 hsg hd
   have A0:at? (Z27 x.f1 (allI 0 l) (allI 1 l)) 0=some x.f1.f3:=rfl
   have A1:at? (Z27 x.f1 (allI 0 l) (allI 1 l)) 1=some (u64.wrap x.f1.f5):=rfl
   rw[A0,sb,A1,sb,w2,chkB (by rw[hrl];omega),cut_p,hB1,sb,chkB (by rw[hrl];omega),cut_n,hB2,sb,hsum]
   rw[make_id hx.1 fx (g:=⟨H.f0,H.f1,H.f2,x.f1.f3,H.f4,x.f1.f5,x.f1.f6,x.f1.f7⟩) hHx.1 hHx.2.1 hHx.2.2 rfl rfl,sb,chkB (by simp;omega),Zf (n:=i+1) (by omega) (by omega)]
   exact ih (pre++[x]) p (some x) _ st x.f0 gp a1 (i+1) (by simp[h1]) (by simp;omega) h2x hrl hst (fun y hy=>by cases hy;exact⟨rfl,rfl⟩) hsg (fun hy=>by cases hy) ha1 hd
  rw[Zn.l0]
  dsimp only
  rw[ht,Zf (n:=1+((l.length:Int)-1)) (by omega) (by omega),if_pos (by simp;omega),Zc3,sb,sb,if_pos (by simp)]
  rcases h2 with ⟨rfl,rfl,rfl⟩ | ⟨y,rfl,rfl,rfl⟩ | ⟨P0,y,w,rfl,rfl,rfl⟩
  ·have hi0:i=0:=by simpa using hi
   subst hi0
   rw[body,List.append_assoc,List.append_assoc] at h
   have c:=Z3l hb (n:=x.f0.toNat) (m:=1099511627776) (by omega) (by omega) ha h
   have l1:=congrArg List.length h
   simp only[List.length_drop,Z0j,List.length_append] at l1
   rw[Int.toNat_of_nonneg hx.2.1] at c
   rw[if_pos (by simp),show Z4.f b (a:Int) 0 1099511627776=_ from c,sb,sb]
   dsimp only
   obtain⟨a1,e1,g1,g2⟩:=s1_0 hb H (lay (allI 0 l)) (lay (allI 1 l)) t (allI 0 l) (allI 1 l) (by omega) (by omega) la [] x.f0 step (body (allI 0 l) (allI 1 l) none (some x) suf++z) (Z27 x.f1 (allI 0 l) (allI 1 l)) [] was (a+(cnt2 x.f0.toNat).length) 0 (by simpa using hrl) (by omega) rfl hru (by omega) (by rw[← List.drop_drop,h,List.drop_left])
   rw[List.nil_append,List.nil_append] at e1
   rw[e1,sb]
   exact fin a1 step _ hs g1 (fun y x' hy=>by cases hy) g2
  ·have hi1:i=1:=by simpa using hi
   subst hi1
   obtain⟨rfl,rfl⟩:=hp y rfl
   have hy:=hc.ok y (by rw[h1];simp)
   have hyx:y.f0<x.f0:=(List.pairwise_append.1 hup).2.2 y (by simp) x (by simp)
   have hyl:=Z4m y.f1 (allI 0 l) (allI 1 l)
   rw[body,List.append_assoc,List.append_assoc] at h
   have c:=Z3l hb (n:=(x.f0-y.f0-1).toNat) (m:=1099511627776) (by omega) (by omega) ha h
   have l1:=congrArg List.length h
   simp only[List.length_drop,Z0j,List.length_append] at l1
   have e0:i64.wrap (i64.wrap (y.f0+1)+((x.f0-y.f0-1).toNat:Int))=x.f0:=by
    rw[Zf (n:=y.f0+1) (by omega) (by omega),Zf (by omega) (by omega)];omega
   rw[if_neg (by simp),if_pos (by simp),show Z4.f b (a:Int) 0 1099511627776=_ from c,sb]
   dsimp only
   rw[sb]
   dsimp only
   rw[sb]
   dsimp only
   rw[e0]
   obtain⟨a1,e1,g1,g2⟩:=s1_1 hb H (lay (allI 0 l)) (lay (allI 1 l)) t (allI 0 l) (allI 1 l) (by omega) (by omega) y.f0 [y] x.f0 (body (allI 0 l) (allI 1 l) (some y) (some x) suf++z) (Z27 x.f1 (allI 0 l) (allI 1 l)) [] (Z27 y.f1 (allI 0 l) (allI 1 l)) step [] (a+(cnt2 (x.f0-y.f0-1).toNat).length) 0 (by simpa using hrl) (by omega) (by omega) rfl rfl hru (by omega) (by rw[← List.drop_drop,h,List.drop_left])
   rw[List.nil_append,List.nil_append,List.nil_append,List.nil_append] at e1
   rw[e1,sb]
   dsimp only
   rw[Zf (n:=x.f0-y.f0) (by omega) (by omega)]
   exact fin a1 _ _ (by rw[Z8x (by omega)];exact hrl) g1 (fun y' x' hy hx=>by cases hy;cases hx;exact⟨rfl,rfl⟩) g2
  ·have hi2:2≤i:=by rw[hi];simp;omega
   obtain⟨rfl,rfl⟩:=hp w rfl
   obtain⟨rfl,rfl⟩:=hq y w rfl rfl
   have hw':=hc.ok w (by rw[h1];simp)
   have hy:=hc.ok y (by rw[h1];simp)
   have hwx:w.f0<x.f0:=(List.pairwise_append.1 hup).2.2 w (by simp) x (by simp)
   have hwl:=Z4m w.f1 (allI 0 l) (allI 1 l)
   have hyl:=Z4m y.f1 (allI 0 l) (allI 1 l)
   rw[body,List.append_assoc,List.append_assoc] at h
   have c:=Zby hb (x:=x.f0-2*w.f0+y.f0) (by omega) ha h
   have l1:=congrArg List.length h
   simp only[List.length_drop,Z0j,List.length_append] at l1
   have e0:i64.wrap (i64.wrap (w.f0+(w.f0-y.f0))+(x.f0-2*w.f0+y.f0))=x.f0:=by
    rw[Zf (n:=w.f0+(w.f0-y.f0)) (by omega) (by omega),Zf (by omega) (by omega)];omega
   rw[if_neg (by simp;omega),if_neg (by simp;omega),c,sb]
   dsimp only
   rw[sb]
   dsimp only
   rw[sb]
   dsimp only
   rw[e0]
   obtain⟨a1,e1,g1,g2⟩:=s1_2 hb H (lay (allI 0 l)) (lay (allI 1 l)) t (allI 0 l) (allI 1 l) (by omega) (by omega) w.f0 (P0++[y,w]) i x.f0 hi2 (body (allI 0 l) (allI 1 l) (some w) (some x) suf++z) (Z27 x.f1 (allI 0 l) (allI 1 l)) [] (Z27 w.f1 (allI 0 l) (allI 1 l)) (subR (Z27 w.f1 (allI 0 l) (allI 1 l)) (Z27 y.f1 (allI 0 l) (allI 1 l))) [] (a+(intB (x.f0-2*w.f0+y.f0)).length) 0 (by simpa using hrl) (by omega) (by omega) rfl rfl hru (by omega) (by rw[← List.drop_drop,h,List.drop_left])
   rw[List.nil_append,List.nil_append,List.nil_append,List.nil_append] at e1
   rw[e1,sb]
   dsimp only
   rw[Zf (n:=x.f0-w.f0) (by omega) (by omega)]
   exact fin a1 _ _ (by rw[Z8x (by omega)];exact hrl) g1 (fun y' x' hy hx=>by cases hy;cases hx;exact⟨rfl,rfl⟩) g2
end Go.Proofs.YtinhldbfifpakaaGreat.PvGL
set_option linter.unusedVariables false
set_option linter.unusedSimpArgs false
namespace Go.Proofs.YtinhldbfifpakaaGreat.PvGL
open Go Go.Pv Go.Pv.GS Go.IntKind
theorem end_l0 {b:List Int} (hb:Src b):∀ (f a:Nat),a+f=8*b.length→(Zz b).drop a=List.replicate f false→∃ a':Int,Zp.l0 b (a:Int) 0=some (a',0):=by
 intro f
 have hl:=hb.len
 induction f with
 | zero =>
  intro a ha h
  unfold Zp.l0 Z09.f
  rw[if_pos (by simp),sb,Zf (n:=(8:Int)*(b.length:Int)) (by omega) (by omega),Zf (by omega) (by omega),sb,if_neg (by simp;omega)]
  exact⟨_,rfl⟩
 | succ f ih =>
  intro a ha h
  have hx:(Zz b)[a]? = some false:=by
   have:=congrArg (fun l=>l[0]?) h
   simpa[List.replicate_succ] using this
  have hn:(Zz b).drop (a+1)=List.replicate f false:=by
   have:=congrArg List.tail h
   rw[List.tail_drop,List.replicate_succ,List.tail_cons] at this
   exact this
  unfold Zp.l0 Z09.f
  rw[if_pos (by simp),sb,Zf (n:=(8:Int)*(b.length:Int)) (by omega) (by omega),Zf (by omega) (by omega),sb,if_pos (by simp;omega),Z71 hb hx,sb]
  dsimp only
  rw[if_neg (by simp),sb]
  exact ih (a+1) (by omega) hn
theorem end_ok {b:List Int} (hb:Src b) {a f:Nat} (hf:f<8) (ha:a≤8*b.length) (h:(Zz b).drop a=List.replicate f false):∃ a':Int,Zp.f b (a:Int) 0=some (0,a',0):=by
 have hl:=hb.len
 have l1:=congrArg List.length h
 rw[List.length_drop,Z0j,List.length_replicate] at l1
 obtain⟨a',e⟩:=end_l0 hb f a (by omega) h
 unfold Zp.f Z09.f
 rw[if_pos (by simp),sb,Zf (n:=(8:Int)*(b.length:Int)) (by omega) (by omega),Zf (by omega) (by omega),sb,if_neg (by simp;omega),sb,e,sb]
 exact⟨a',rfl⟩
theorem small_neg {b:List Int} (hb:Src b) {a:Nat} (ha:a≤8*b.length):∃ (a1:Nat) (e:Int),Z4.f b (a:Int) 0 (-1)=some (0,(a1:Int),e)∧a1≤8*b.length∧e≠0:=by
 unfold Z4.f
 obtain⟨n,a1,e,h1,h2,h3,h4⟩:=Zc7 hb ha
 rw[h1,sb,if_pos (by simp),sb,if_pos rfl]
 dsimp only
 by_cases he:e=0
 ·subst he;rw[Za8,sb];exact⟨a1,9,rfl,h2,by omega⟩
 ·rw[rfail1 he,sb];exact⟨a1,e,rfl,h2,he⟩
theorem end_long {b:List Int} (hb:Src b) {a:Nat} (h:a+8≤8*b.length):Zp.f b (a:Int) 0=some (6,(a:Int),6):=by
 have hl:=hb.len
 unfold Zp.f Z09.f
 rw[if_pos (by simp),sb,Zf (n:=(8:Int)*(b.length:Int)) (by omega) (by omega),Zf (by omega) (by omega),sb,if_pos (by simp;omega),Za8,sb,sb,Zp.l0,if_neg (by simp),sb,if_neg (by simp),sb]
theorem Z9y {b:List Int} (hb:Src b):∀ (m a:Nat) (e:Int),8*b.length-a≤m→a≤8*b.length→∃ a' e',Zp.l0 b (a:Int) e=some (a',e'):=by
 intro m
 have hl:=hb.len
 induction m with
 | zero =>
  intro a e h ha
  unfold Zp.l0 Z09.f
  by_cases he:e=0
  ·rw[if_pos (by simpa using he),sb,Zf (n:=(8:Int)*(b.length:Int)) (by omega) (by omega),Zf (by omega) (by omega),sb,if_neg (by simp;omega)];exact⟨_,_,rfl⟩
  ·rw[if_neg (by simpa using he),sb,if_neg (by simp)];exact⟨_,_,rfl⟩
 | succ m ih =>
  intro a e h ha
  unfold Zp.l0 Z09.f
  by_cases he:e=0
  case neg=>rw[if_neg (by simpa using he),sb,if_neg (by simp)];exact⟨_,_,rfl⟩
  subst he
  rw[if_pos (by simp),sb,Zf (n:=(8:Int)*(b.length:Int)) (by omega) (by omega),Zf (by omega) (by omega),sb]
  by_cases h0:a<8*b.length
  case neg=>rw[if_neg (by simp;omega)];exact⟨_,_,rfl⟩
  have hlt:a<(Zz b).length:=by rw[Z0j];exact h0
  rw[if_pos (by simp;omega),Z71 hb (List.getElem?_eq_getElem hlt),sb]
  dsimp only
  obtain⟨x,hx⟩:∃ x,((if(Zz b)[a]=true then((Zx.f b ((a+1:Nat):Int) 0 6)>>=fun t3461=>some t3461) else(some (0:Int))):Option (Int))=some x:=by
   split
   ·rw[Za8,sb];exact⟨_,rfl⟩
   ·exact⟨_,rfl⟩
  rw[hx,sb]
  exact ih (a+1) x (by omega) (by omega)
theorem end_tot {b:List Int} (hb:Src b) {a:Nat} (ha:a≤8*b.length) (e:Int):∃ r a' e',Zp.f b (a:Int) e=some (r,a',e'):=by
 have hl:=hb.len
 unfold Zp.f Z09.f
 by_cases he:e=0
 ·subst he
  rw[if_pos (by simp),sb,Zf (n:=(8:Int)*(b.length:Int)) (by omega) (by omega),Zf (by omega) (by omega),sb]
  obtain⟨x,hx⟩:∃ x,((if(decide ((8:Int)*(b.length:Int)-(a:Int)≥(8:Int)))=true then((Zx.f b (a:Int) 0 6)>>=fun t3423=>some t3423) else(some (0:Int))):Option (Int))=some x:=by
   split
   ·rw[Za8,sb];exact⟨_,rfl⟩
   ·exact⟨_,rfl⟩
  rw[hx,sb]
  obtain⟨a',e',h⟩:=Z9y hb _ a x (Nat.le_refl _) ha
  rw[h,sb];exact⟨_,_,_,rfl⟩
 ·rw[if_neg (by simpa using he),sb,if_neg (by simp),sb]
  obtain⟨a',e',h⟩:=Z9y hb _ a e (Nat.le_refl _) ha
  rw[h,sb];exact⟨_,_,_,rfl⟩
end Go.Proofs.YtinhldbfifpakaaGreat.PvGL
set_option linter.unusedVariables false
set_option linter.unusedSimpArgs false
set_option maxRecDepth 10000
namespace Go.Proofs.YtinhldbfifpakaaGreat.PvGL
open Go Go.Pv Go.Pv.GS Go.IntKind
theorem eqloop {α:Type} [DecidableEq α] (a b:List α) (hl:a.length=b.length) (ha:a.length<1000000000) (ne:α→α→Bool) (hne:∀ x y,ne x y = !decide (x=y)) (F:Int→Option (Bool ⊕ Unit))
  (hF:∀ i,F i=if(decide (i<(a.length:Int)))=true then((at? a i)>>=fun x=>(at? b i)>>=fun y=>if ne x y=true then(some (.inl false)) else F (i64.wrap (i+(1:Int)))) else(some (.inr ()))) :
  ∀ (sa pa sb' pb:List α) (i:Int),a=pa++sa→b=pb++sb'→pa.length=pb.length→i=(pa.length:Int)→F i=some (if sa=sb' then .inr () else .inl false):=by
 intro sa
 induction sa with
 | nil =>
  intro pa sb' pb i h1 h2 h3 hi
  have e:sb'=[]:=by
   have l1:=congrArg List.length h1
   have l2:=congrArg List.length h2
   simp only[List.length_append,List.length_nil] at l1 l2
   exact List.length_eq_zero_iff.1 (by omega)
  rw[hF,if_neg (by rw[h1];simp[hi]),e,if_pos rfl]
 | cons x sa ih =>
  intro pa sb' pb i h1 h2 h3 hi
  have l1:=congrArg List.length h1
  have l2:=congrArg List.length h2
  simp only[List.length_append,List.length_cons] at l1 l2
  cases sb' with
  | nil=>simp only[List.length_nil] at l2;omega
  | cons y sb' =>
   rw[hF,if_pos (by simp;omega),Z1q h1 hi,sb,Z1q h2 (by omega),sb,hne,Zf (by omega) (by omega)]
   by_cases c:x=y
   ·subst c
    rw[if_neg (by simp),ih (pa++[x]) sb' (pb++[x]) (i+1) (by simp[h1]) (by simp[h2]) (by simp[h3]) (by simp;omega)]
    by_cases c2:sa=sb'
    ·rw[if_pos c2,if_pos (by rw[c2])]
    ·rw[if_neg c2,if_neg (by simp[c2])]
   ·rw[if_pos (by simp[c]),if_neg (by simp[c])]
theorem bkt_ne (x y:Z3):(!((x.f0==y.f0)&&((x.f1==y.f1)&&true))) = !decide (x=y):=by
 obtain⟨a,b⟩:=x;obtain⟨c,d⟩:=y
 by_cases h1:a=c<;>by_cases h2:b=d<;>simp[h1,h2]
theorem rsame_eq (a b:List Z3) (ha:a.length<1000000000):Z34.f a b=some (decide (a=b)):=by
 unfold Z34.f
 by_cases hl:a.length=b.length
 ·have L:=eqloop a b hl ha (fun x y => !((x.f0==y.f0)&&((x.f1==y.f1)&&true))) bkt_ne (       Z34.l0 a b) (fun i=>by rw[       Z34.l0]) a [] b [] 0 rfl rfl rfl rfl
  rw[if_neg (by simp;omega),L,sb]
  by_cases c:a=b
  ·rw[if_pos c,decide_eq_true c]
  ·rw[if_neg c,decide_eq_false c]
 ·rw[if_pos (by simp;omega),decide_eq_false (fun h=>hl (by rw[h]))]
theorem rSame_eq (a b:Z06) (h6:a.f6.length<1000000000) (h7:a.f7.length<1000000000):Z55.f a b=some (decide (a=b)):=by
 unfold Z55.f
 rw[rsame_eq _ _ h6,rsame_eq _ _ h7]
 obtain⟨a0,a1,a2,a3,a4,a5,a6,a7⟩:=a
 obtain⟨b0,b1,b2,b3,b4,b5,b6,b7⟩:=b
 simp only[sb]
 by_cases c0:a0=b0
 case neg=>rw[if_neg (by simpa using c0),sb,decide_eq_false (by simp[c0])]
 by_cases c1:a1=b1
 case neg=>rw[if_pos (by simpa using c0),if_neg (by simpa using c1),sb,decide_eq_false (by simp[c1])]
 by_cases c2:a2=b2
 case neg=>rw[if_pos (by simpa using c0),if_pos (by simpa using c1),if_neg (by simpa using c2),sb,decide_eq_false (by simp[c2])]
 by_cases c3:a3=b3
 case neg=>rw[if_pos (by simpa using c0),if_pos (by simpa using c1),if_pos (by simpa using c2),if_neg (by simpa using c3),sb,decide_eq_false (by simp[c3])]
 by_cases c4:a4=b4
 case neg=>rw[if_pos (by simpa using c0),if_pos (by simpa using c1),if_pos (by simpa using c2),if_pos (by simpa using c3),if_neg (by simpa using c4),sb,decide_eq_false (by simp[c4])]
 by_cases c5:a5=b5
 case neg=>rw[if_pos (by simpa using c0),if_pos (by simpa using c1),if_pos (by simpa using c2),if_pos (by simpa using c3),if_pos (by simpa using c4),if_neg (by simpa using c5),sb,decide_eq_false (by simp[c5])]
 rw[if_pos (by simpa using c0),if_pos (by simpa using c1),if_pos (by simpa using c2),if_pos (by simpa using c3),if_pos (by simpa using c4),if_pos (by simpa using c5)]
 by_cases c6:a6=b6
 case neg=>rw[if_neg (by simpa using c6),sb,decide_eq_false (by simp[c6])]
 by_cases c7:a7=b7
 case neg=>rw[if_pos (by simpa using c6),decide_eq_false c7,sb,decide_eq_false (by simp[c7])]
 rw[if_pos (by simpa using c6),decide_eq_true c7,sb,decide_eq_true (by simp[c0,c1,c2,c3,c4,c5,c6,c7])]
theorem byte_ne (x y:Int):(x != y) = !decide (x=y):=by
 by_cases h:x=y<;>simp[h]
theorem eqbytes (a b:List Int) (ha:a.length<1000000000):Z16.f a b=some (decide (a=b)):=by
 unfold Z16.f
 by_cases hl:a.length=b.length
 ·have L:=eqloop a b hl ha (fun x y=>x != y) byte_ne (                Z16.l0 a b) (fun i=>by rw[                Z16.l0]) a [] b [] 0 rfl rfl rfl rfl
  rw[if_neg (by simp;omega),L,sb]
  by_cases c:a=b
  ·rw[if_pos c,decide_eq_true c]
  ·rw[if_neg c,decide_eq_false c]
 ·rw[if_pos (by simp;omega),decide_eq_false (fun h=>hl (by rw[h]))]
end Go.Proofs.YtinhldbfifpakaaGreat.PvGL
set_option linter.unusedVariables false
set_option linter.unusedSimpArgs false
set_option maxRecDepth 10000
namespace Go.Proofs.YtinhldbfifpakaaGreat.PvGL
open Go Go.Pv Go.Pv.GS Go.IntKind
variable {b:List Int}
theorem Zbq {l:List Int} {i:Nat} {v:Int} (hl:∀ x∈l,U64 x) (hv:U64 v):∀ x∈l.set i v,U64 x:=fun x hx=>by
 rcases List.mem_or_eq_of_mem_set hx with h | rfl
 ·exact hl x h
 ·exact hv
theorem s1_tot (hb:Src b) (H:Z06) (L M:Zd) (t:Int×Int×Int) (P N:List Int) (hP:P.length≤1000000) (hN:N.length≤1000000) (la:Int) (o:List Ze) (i tm:Int) :
  ∀ (m:Nat) (was step:List Int) (a:Nat) (e:Int) (k:Nat),(2+P.length+N.length)-k≤m→was.length=2+P.length+N.length→step.length=2+P.length+N.length→(∀ x∈was,U64 x)→a≤8*b.length →
  ∃ (a':Nat) (e':Int) (w s:List Int),Zn.l1 b H L M t P N la o i tm (a:Int) e was step (k:Int)=some ((a':Int),e',w,s)∧a'≤8*b.length∧w.length=2+P.length+N.length∧s.length=2+P.length+N.length∧∀ x∈w,U64 x:=by
 intro m
 induction m with
 | zero =>
  intro was step a e k hm hw hs hu ha
  rw[Zn.l1,Z5u hP hN,if_neg (by simp;omega)]
  exact⟨a,e,was,step,rfl,ha,hw,hs,hu⟩
 | succ m ih =>
  intro was step a e k hm hw hs hu ha
  by_cases hk:k<2+P.length+N.length
  case neg =>
   rw[Zn.l1,Z5u hP hN,if_neg (by simp;omega)]
   exact⟨a,e,was,step,rfl,ha,hw,hs,hu⟩
  have aw:at? was (k:Int)=some (was[k]'(by omega)):=Z53 rfl (List.getElem?_eq_getElem _)
  have aS:at? step (k:Int)=some (step[k]'(by omega)):=Z53 rfl (List.getElem?_eq_getElem _)
  have aS2:∀ v,at? (step.set (Int.toNat (k:Int)) v) (k:Int)=some v:=fun v=>Z53 rfl (by rw[Int.toNat_natCast,List.getElem?_set_self (by omega)])
  rw[Zn.l1,Z5u hP hN,if_pos (by simp;omega),Zf (n:=(k:Int)+1) (by omega) (by omega)]
  have nx:∀ (a1:Nat) (e1:Int) (w s:List Int),a1≤8*b.length→w.length=2+P.length+N.length→s.length=2+P.length+N.length→(∀ x∈w,U64 x)→∃ (a':Nat) (e':Int) (w' s':List Int),Zn.l1 b H L M t P N la o i tm (a1:Int) e1 w s ((k:Int)+1)=some ((a':Int),e',w',s')∧a'≤8*b.length∧w'.length=2+P.length+N.length∧s'.length=2+P.length+N.length∧∀ x∈w',U64 x:=by
   intro a1 e1 w s h1 h2 h3 h4
   have:=ih w s a1 e1 (k+1) (by omega) h2 h3 h4 h1
   rwa [show((k+1:Nat):Int)=(k:Int)+1 by omega] at this
  by_cases i0:i=0
  ·obtain⟨n,a1,e1,h1,h2,h3⟩:=count_tot hb ha e
   rw[if_pos (by simpa using i0),h1,sb,aw,sb,sb]
   dsimp only
   exact nx a1 e1 _ step h2 (by simpa using hw) hs (Zbq hu ⟨by omega,by omega⟩)
  rw[if_neg (by simpa using i0)]
  by_cases i1:i=1
  ·obtain⟨x,a1,e1,h1,h2,h3⟩:=Zbx     hb ha e
   rw[if_pos (by simpa using i1),h1,sb,aS,sb,aw,sb]
   dsimp only
   rw[aS2,sb,sb]
   dsimp only
   rw[sb]
   dsimp only
   exact nx a1 e1 _ _ h2 (by simpa using hw) (by simpa using hs) (Zbq hu (Z67 _))
  ·obtain⟨x,a1,e1,h1,h2,h3⟩:=Zbx     hb ha e
   rw[if_neg (by simpa using i1),aS,sb,h1,sb,aw,sb]
   dsimp only
   rw[aS2,sb,sb]
   dsimp only
   rw[sb]
   dsimp only
   exact nx a1 e1 _ _ h2 (by simpa using hw) (by simpa using hs) (Zbq hu (Z67 _))
theorem seqI_mem {x:Int}:∀ {n:Nat} {a:Int},x∈seqI a n→a≤x∧x<a+n
 | 0,a,h=>by simp[seqI] at h
 | n+1,a,h=>by
  rw[seqI] at h
  rcases List.mem_cons.1 h with rfl | h
  ·omega
  ·have:=seqI_mem h;omega
theorem idxs_bd {x:Int}:∀ (r:List Z35) (a:Int),(∀ s∈r,-3000000≤s.f0∧s.f0≤3000000∧0≤s.f1∧s.f1≤1000000)→x∈idxs r a→a-3000000*(r.length:Int)≤x∧x≤a+4000000*(r.length:Int)
 | [],a,_,h=>by simp[idxs] at h
 | s::r,a,hs,h=>by
  have q:=hs s (by simp)
  rw[idxs] at h
  simp only[List.length_cons]
  rcases List.mem_append.1 h with h | h
  ·have:=seqI_mem h;omega
  ·have:=idxs_bd r _ (fun s hs'=>hs s (by simp[hs'])) h;omega
theorem LOk.ind {L:Zd} (h:LOk L):∃ P,Z01.f L=some P∧P.length≤512∧∀ i∈P,I64 i:=by
 have:=h.first
 refine⟨_,ind_eq L h.sp (by omega) (by have:=h.len;omega),by rw[idxs_len];exact h.len,fun i hi => ?_⟩
 have:=idxs_bd L.f1 L.f0 h.sp.ok hi
 have:=h.sp.len
 omega
structure HOk (h:Z06):Prop where
 fits:Fits h
 pos:h.f6.length≤512
 neg:h.f7.length≤512
theorem HOk.zero:HOk (⟨0,0,0,0,0,0,[],[]⟩:Z06):=⟨⟨by decide,by decide,by decide,by decide,by decide,by decide,by simp,by simp⟩,by simp,by simp⟩
theorem smp_tot (hb:Src b) {L M:Zd} {P N:List Int} (iP:Z01.f L=some P) (iN:Z01.f M=some N) (lP:P.length≤512) (lN:N.length≤512) (bP:∀ i∈P,I64 i) (bN:∀ i∈N,I64 i) (H:Z06) (hH:I64 H.f0∧I64 H.f1∧I64 H.f2∧U64 H.f4) (t:Int×Int×Int) (ht:0≤t.1∧t.1≤31) :
  ∀ (m:Nat) (was step:List Int) (la gap:Int) (o:List Ze) (a:Nat) (e:Int) (i:Int),33-i≤m→i=(o.length:Int)→o.length≤32→was.length=2+P.length+N.length→step.length=2+P.length+N.length→(∀ x∈was,U64 x)→(∀ s∈o,HOk s.f1)→a≤8*b.length →
  ∃ (r:List Ze) (a':Nat) (e':Int),Zn.l0 b H L M t P N ((a:Int),e,was,step,la,gap,o,i)=some (r,(a':Int),e')∧a'≤8*b.length∧r.length≤32∧∀ s∈r,HOk s.f1:=by
 intro m
 induction m with
 | zero=>intro was step la gap o a e i hm hi ho;omega
 | succ m ih =>
  intro was step la gap o a e i hm hi ho hw hs hu hok ha
  rw[Zn.l0]
  dsimp only
  rw[Zf (n:=1+t.1) (by omega) (by omega)]
  by_cases c:i<1+t.1
  case neg=>rw[if_neg (by simpa using c),sb,if_neg (by simp)];exact⟨o,a,e,rfl,ha,ho,hok⟩
  rw[if_pos (by simpa using c),Zc3,sb,sb]
  by_cases he:e=0
  case neg=>rw[if_neg (by simpa using he)];exact⟨o,a,e,rfl,ha,ho,hok⟩
  rw[if_pos (by simpa using he)]
  have T:∃ (a1:Nat) (e1 tm:Int),((if(i==(0:Int))=true then((Z4.f b (a:Int) e 1099511627776)>>=fun t3202=>some (t3202.2.1,t3202.2.2,t3202.1)) else(((if(i==(1:Int))=true then((Z4.f b (a:Int) e 1099511627776)>>=fun t3207=>some (t3207.2.1,t3207.2.2,i64.wrap ((i64.wrap (la+(1:Int)))+t3207.1))) else((Z0d.f b (a:Int) e)>>=fun t3211=>some (t3211.2.1,t3211.2.2,i64.wrap ((i64.wrap (la+gap))+t3211.1)))):Option (Int×Int×Int))>>=fun oo=>match oo with | (x3213,x3214,x3215)=>(some (x3213,x3214,x3215)))):Option (Int×Int×Int))=some ((a1:Int),e1,tm)∧a1≤8*b.length:=by
   by_cases i0:i=0
   ·obtain⟨n,a1,e1,h1,h2,h3⟩:=Z6l       hb ha e (m:=1099511627776) (by omega)
    rw[if_pos (by simpa using i0),show Z4.f b (a:Int) e 1099511627776=_ from h1,sb]
    exact⟨_,_,_,rfl,h2⟩
   rw[if_neg (by simpa using i0)]
   by_cases i1:i=1
   ·obtain⟨n,a1,e1,h1,h2,h3⟩:=Z6l       hb ha e (m:=1099511627776) (by omega)
    rw[if_pos (by simpa using i1),show Z4.f b (a:Int) e 1099511627776=_ from h1,sb,sb]
    exact⟨_,_,_,rfl,h2⟩
   ·obtain⟨x,a1,e1,h1,h2,h3⟩:=Zbx     hb ha e
    rw[if_neg (by simpa using i1),h1,sb,sb]
    exact⟨_,_,_,rfl,h2⟩
  obtain⟨a1,e1,tm,E1,g1⟩:=T
  rw[E1,sb]
  dsimp only
  obtain⟨a2,e2,w,s,E2,g2,g3,g4,g5⟩:=s1_tot hb H L M t P N (by omega) (by omega) la o i tm _ was step a1 e1 0 (Nat.le_refl _) hw hs hu g1
  rw[show Zn.l1 b H L M t P N la o i tm (a1:Int) e1 was step 0=_ from E2,sb]
  dsimp only
  have w2:i64.wrap ((2:Int)+(P.length:Int))=((2+P.length:Nat):Int):=by rw[Zf (by omega) (by omega)];omega
  have A0:at? w 0=some (w[0]'(by omega)):=Z53 (k:=0) rfl (List.getElem?_eq_getElem _)
  have A1:at? w 1=some (w[1]'(by omega)):=Z53 (k:=1) rfl (List.getElem?_eq_getElem _)
  have u0:=g5 _ (List.getElem_mem (l:=w) (n:=0) (by omega))
  have B1:=Z84 iP (by omega) (c:=(w.drop (Int.toNat (2:Int))).take (Int.toNat (((2+P.length:Nat):Int))-Int.toNat (2:Int))) (by
   rw[List.length_take,List.length_drop,show Int.toNat (2:Int)=2 from rfl,Int.toNat_natCast];omega)
  have B2:=Z84 iN (by omega) (c:=(w.drop (Int.toNat (((2+P.length:Nat):Int)))).take (Int.toNat (w.length:Int)-Int.toNat (((2+P.length:Nat):Int)))) (by
   rw[List.length_take,List.length_drop,Int.toNat_natCast,Int.toNat_natCast];omega)
  rw[A0,sb,A1,sb,w2,chkB (by omega),B1,sb,chkB (by omega),B2,sb]
  have l1:=bks_len P ((w.drop (Int.toNat (2:Int))).take (Int.toNat (((2+P.length:Nat):Int))-Int.toNat (2:Int)))
  have l2:=bks_len N ((w.drop (Int.toNat (((2+P.length:Nat):Int)))).take (Int.toNat (w.length:Int)-Int.toNat (((2+P.length:Nat):Int))))
  have m1:∀ y∈bks P ((w.drop (Int.toNat (2:Int))).take (Int.toNat (((2+P.length:Nat):Int))-Int.toNat (2:Int))),I64 y.f0∧U64 y.f1:=fun y hy=>by
   have q:=Zci _ _ y hy
   exact⟨bP _ q.1,g5 _ (List.mem_of_mem_drop (List.mem_of_mem_take q.2.1))⟩
  have m2:∀ y∈bks N ((w.drop (Int.toNat (((2+P.length:Nat):Int)))).take (Int.toNat (w.length:Int)-Int.toNat (((2+P.length:Nat):Int)))),I64 y.f0∧U64 y.f1:=fun y hy=>by
   have q:=Zci _ _ y hy
   exact⟨bN _ q.1,g5 _ (List.mem_of_mem_drop (List.mem_of_mem_take q.2.1))⟩
  generalize bks P ((w.drop (Int.toNat (2:Int))).take (Int.toNat (((2+P.length:Nat):Int))-Int.toNat (2:Int)))=Pb at *
  generalize bks N ((w.drop (Int.toNat (((2+P.length:Nat):Int)))).take (Int.toNat (w.length:Int)-Int.toNat (((2+P.length:Nat):Int))))=Nb at *
  obtain⟨r,e3,E3,k1,k2,k3,k4⟩:=make_spec (⟨H.f0,H.f1,H.f2,w[0]'(by omega),H.f4,i64.wrap (w[1]'(by omega)),Pb,Nb⟩:Z06) Pb Nb ⟨hH.1,hH.2.1,hH.2.2.1,u0,hH.2.2.2,Z80 _,m1,m2⟩ (by omega) (by omega) m1 m2
  have hr:HOk r:=by
   by_cases he3:e3=0
   ·obtain⟨fr,cr,_⟩:=k4 he3
    obtain⟨x,ex,hx⟩:=Zce r fr (by omega) (by omega)
    rw[cr] at ex
    have v:=hx.1 (Option.some.inj ex).symm
    exact⟨fr,v.pos.len,v.neg.len⟩
   ·rw[k3 he3];exact HOk.zero
  rw[E3,sb,chkB (by simp;omega),Zf (n:=i+1) (by omega) (by omega)]
  exact ih w s tm _ (o++[⟨tm,r⟩]) a2 e2 (i+1) (by omega) (by simp;omega) (by simp;omega) g3 g4 g5 (fun s hs=>by
   rcases List.mem_append.1 hs with hs | hs
   ·exact hok s hs
   ·simp at hs;subst hs;exact hr) g2
theorem get_fwd (hb:Src b) {a k:Nat} {s z:List Bool} (hk:k≤64) (hs:s.length=k) (ha:a≤8*b.length) (h:(Zz b).drop a=s++z):Zk.f b (a:Int) 0 (k:Int)=some (((val s:Nat):Int),((a+k:Nat):Int),0):=by
 have l1:=congrArg List.length h
 simp only[List.length_drop,Z0j,List.length_append] at l1
 rcases Z9e hb hk ha with ⟨_,h2⟩ | ⟨h1,_⟩
 ·rw[h2,h,List.take_left' hs]
 ·omega
theorem get_tot (hb:Src b) {a k:Nat} (hk:k≤64) (ha:a≤8*b.length) (e:Int):∃ (n a1:Nat) (e1:Int),Zk.f b (a:Int) e (k:Int)=some ((n:Int),(a1:Int),e1)∧a1≤8*b.length∧n<2 ^ k:=by
 have hp:0<2 ^ k:=Nat.pow_pos (by omega)
 by_cases he:e=0
 ·subst he
  rcases Z9e hb hk ha with ⟨h1,h2⟩ | ⟨h1,h2⟩
  ·refine⟨_,_,0,h2,h1,?_⟩
   have:=Zct (((Zz b).drop a).take k)
   rwa [List.length_take,List.length_drop,Z0j,Nat.min_eq_left (by omega)] at this
  ·exact⟨0,8*b.length,7,h2,Nat.le_refl _,hp⟩
 ·exact⟨0,a,e,get_bad hk he,ha,hp⟩
theorem bit_tot (hb:Src b) {a:Nat} (ha:a≤8*b.length):∃ (x:Bool) (a1:Nat) (e1:Int),Z0b.f b (a:Int) 0=some (x,(a1:Int),e1)∧a1≤8*b.length:=by
 by_cases h:a<8*b.length
 ·have hlt:a<(Zz     b).length:=by rw[Z0j       ];exact h
  exact⟨_,a+1,0,Z71 hb (List.getElem?_eq_getElem hlt),by omega⟩
 ·exact⟨false,a,7,rbit_end hb (by omega),ha⟩
theorem enc_tot (l:List Ze) (hl:l.length≤1000) (hk:∀ s∈l,HOk s.f1):∃ (x:List Int) (e:Int),Z08.f l=some (x,e)∧x.length<1000000000∧(e=0→COk l∧l≠[]∧Z0m.f l=some 0∧∃ f,Laid x f (Z61 l)):=by
 obtain⟨e,e1,e3⟩:=chk_p l (by omega) (fun s hs=>(hk s hs).fits)
 by_cases he:e=0
 ·subst he
  obtain⟨hc,hne⟩:=e3 rfl
  obtain⟨x,f,E,h⟩:=enc_eq hc hne (fun s hs=>(hk s hs).fits) e1
  have:=h.len
  have:=h.lt
  have:=Za1 hc (fun s hs=>(hk s hs).fits)
  exact⟨x,0,E,by omega,fun _=>⟨hc,hne,e1,f,h⟩⟩
 ·refine⟨[],e,?_,by simp,fun h=>absurd h he⟩
  unfold Z08.f
  rw[e1,sb,if_pos (by simpa using he)]
theorem dec_tot (hb:Src b):∃ (l:List Ze) (e:Int),Z2i.f b=some (l,e)∧((e=6∧l=[])∨(e=0∧COk l∧l≠[]∧(∀ s∈l,HOk s.f1)∧Z0m.f l=some 0∧∃ f,Laid b f (Z61 l))):=by
 have hbl:=hb.len
 unfold Z2i.f Z3p.f
 rw[sb]
 obtain⟨x,a1,e1,E1,g1⟩:=bit_tot hb (a:=0) (by omega)
 rw[show Z0b.f b 0 0=_ from E1,sb]
 dsimp only
 obtain⟨K,EK,hK⟩:∃ K:Int,((if x=true then(some 1) else(some 0)):Option (Int))=some K∧I64 K:=by
  cases x
  ·exact⟨0,rfl,by omega⟩
  ·exact⟨1,rfl,by omega⟩
 rw[EK,sb]
 obtain⟨n,a2,e2,E2,g2,h2⟩:=get_tot hb (k:=4) (by omega) g1 e1
 rw[show Zk.f b (a1:Int) e1 4=_ from E2,sb]
 dsimp only
 obtain⟨z,a3,e3,E3,g3,h3⟩:=Zbx hb g2 e2
 rw[E3,sb]
 dsimp only
 by_cases c:z < -524288∨z>262144
 ·have:((if(decide (z<(-524288)))=true then(some true) else(some (decide (z>(262144:Int))))):Option (Bool))=some true:=by
   by_cases c1:z < -524288
   ·rw[if_pos (by simpa using c1)]
   ·rw[if_neg (by simpa using c1)];simp;omega
  rw[this,sb,if_pos rfl]
  exact⟨[],6,rfl,.inl ⟨rfl,rfl⟩⟩
 have:((if(decide (z<(-524288)))=true then(some true) else(some (decide (z>(262144:Int))))):Option (Bool))=some false:=by
  rw[if_neg (by simp;omega)];simp;omega
 rw[this,sb,if_neg (by simp)]
 obtain⟨L,a4,e4,E4,g4,h4⟩:=tk_tot hb g3 e3
 rw[E4,sb]
 dsimp only
 obtain⟨M,a5,e5,E5,g5,h5⟩:=tk_tot hb g4 e4
 rw[E5,sb]
 dsimp only
 obtain⟨P,iP,lP,bP⟩:=h4.ind
 obtain⟨N,iN,lN,bN⟩:=h5.ind
 obtain⟨q,a6,e6,E6,g6,h6⟩:=Z6l hb g5 e5 (m:=31) (by omega)
 have ES:∃ (r:List Ze) (a':Nat) (e':Int),Zn.f b (a5:Int) e5 (⟨K,i64.wrap ((i64.wrap (n:Int))+(-4)),z,0,0,0,[],[]⟩:Z06) L M=some (r,(a':Int),e')∧a'≤8*b.length∧r.length≤32∧∀ s∈r,HOk s.f1:=by
  unfold Zn.f
  rw[show Z4.f b (a5:Int) e5 31=_ from E6,sb,iP,sb,iN,sb,Z5u (by omega) (by omega),chkB (by omega)]
  obtain⟨r,a',e',E,k1,k2,k3⟩:=smp_tot hb iP iN lP lN bP bN (⟨K,i64.wrap ((i64.wrap (n:Int))+(-4)),z,0,0,0,[],[]⟩:Z06) ⟨hK,Z80 _,by dsimp only;omega,by dsimp only;omega⟩ ((q:Int),(a6:Int),e6) (by dsimp only;omega) 33 (List.replicate (Int.toNat ((2+P.length+N.length:Nat):Int)) 0) (List.replicate (Int.toNat ((2+P.length+N.length:Nat):Int)) 0) 0 0 [] a6 e6 0 (by omega) rfl (by simp) (by rw[List.length_replicate,Int.toNat_natCast]) (by rw[List.length_replicate,Int.toNat_natCast]) (fun x hx=>by rw[List.eq_of_mem_replicate hx];omega) (by simp) g6
  dsimp only
  rw[E,sb]
  exact⟨r,a',e',rfl,k1,k2,k3⟩
 obtain⟨r,a7,e7,E7,g7,h7,k7⟩:=ES
 rw[E7,sb]
 dsimp only
 obtain⟨w,a8,e8,E8⟩:=end_tot hb g7 e7
 rw[E8,sb]
 dsimp only
 by_cases hw:w=0
 case neg=>rw[if_pos (by simpa using hw)];exact⟨[],6,rfl,.inl ⟨rfl,rfl⟩⟩
 rw[if_neg (by simpa using hw)]
 obtain⟨y,e9,E9,h9,k9⟩:=enc_tot r (by omega) k7
 rw[E9,sb]
 dsimp only
 by_cases he:e9=0
 case neg=>rw[if_pos (by simpa using he),sb,if_pos rfl];exact⟨[],6,rfl,.inl ⟨rfl,rfl⟩⟩
 obtain⟨q1,q2,q3,f,q4⟩:=k9 he
 rw[if_neg (by simpa using he),eqbytes y b h9,sb,sb]
 by_cases hyb:y=b
 ·rw[if_neg (by simp[hyb])]
  subst hyb
  exact⟨r,0,rfl,.inr ⟨rfl,q1,q2,k7,q3,f,q4⟩⟩
 ·rw[if_pos (by simp[hyb])];exact⟨[],6,rfl,.inl ⟨rfl,rfl⟩⟩
theorem dec_fwd (hb:Src b) {l:List Ze} (hc:COk l) (hne:l≠[]) (hk:∀ s∈l,HOk s.f1) (h0:Z0m.f l=some 0) (z:List Bool) (h:Zz b=Z61 l++z) :
  (8≤z.length→Z2i.f b=some ([],6))∧(∀ f,f<8→z=List.replicate f false→Z2i.f b=some (l,0)):=by
 have hF:∀ s∈l,Fits s.f1:=fun s hs=>(hk s hs).fits
 obtain⟨iP,iN⟩:=hc.ids hF
 have lP:=hc.pos
 have lN:=hc.neg
 have h32:=hc.len
 have hbl:=hb.len
 obtain⟨s,r,hl⟩:∃ s r,l=s::r:=by
  cases l with
  | nil=>exact absurd rfl hne
  | cons s r=>exact⟨s,r,rfl⟩
 have hs:=hc.ok s (by rw[hl];simp)
 have fs:=hF s (by rw[hl];simp)
 have hsch:=hs.1.schema
 have hs1:=hsch.1
 have hs2:=hsch.2
 have hz:=hs.1.zero
 have hkd:=hs.1.kind
 have hcb:Z61 l=[s.f1.f0==1]++(nb (s.f1.f1+4).toNat 4++(intB s.f1.f2++(lyB (lay (allI 0 l))++(lyB (lay (allI 1 l))++(cnt2 (l.length-1)++body (allI 0 l) (allI 1 l) none none l))))):=by rw[hl];rfl
 have d0:Zz b=[s.f1.f0==1]++(nb (s.f1.f1+4).toNat 4++(intB s.f1.f2++(lyB (lay (allI 0 l))++(lyB (lay (allI 1 l))++(cnt2 (l.length-1)++(body (allI 0 l) (allI 1 l) none none l++z)))))):=by
  rw[h,hcb];simp
 have lb:=congrArg List.length d0
 simp only[Z0j,List.length_append,Z41,List.length_singleton] at lb
 have x0:(Zz b)[0]? = some (s.f1.f0==1):=by rw[d0];rfl
 have E1:=Z71 hb x0
 have d1:(Zz b).drop 1=nb (s.f1.f1+4).toNat 4++(intB s.f1.f2++(lyB (lay (allI 0 l))++(lyB (lay (allI 1 l))++(cnt2 (l.length-1)++(body (allI 0 l) (allI 1 l) none none l++z))))):=by rw[d0];rfl
 have E2:=get_fwd hb (k:=4) (by omega) (Z41 _ _) (by omega) d1
 rw[Zcs,Nat.mod_eq_of_lt (by omega)] at E2
 have d2:(Zz b).drop (1+4)=intB s.f1.f2++(lyB (lay (allI 0 l))++(lyB (lay (allI 1 l))++(cnt2 (l.length-1)++(body (allI 0 l) (allI 1 l) none none l++z)))):=by rw[← List.drop_drop,d1,List.drop_left' (Z41 _ _)]
 have E3:=Zby hb (x:=s.f1.f2) (by omega) (by omega) d2
 have d3:(Zz b).drop (1+4+(intB s.f1.f2).length)=lyB (lay (allI 0 l))++(lyB (lay (allI 1 l))++(cnt2 (l.length-1)++(body (allI 0 l) (allI 1 l) none none l++z))):=by rw[← List.drop_drop,d2,List.drop_left]
 obtain⟨a4,E4,g4,d4⟩:=tk_fwd hb iP lP (by omega) _ d3
 obtain⟨a5,E5,g5,d5⟩:=tk_fwd hb iN lN g4 _ d4
 have E6:=Z3l hb (n:=l.length-1) (m:=31) (by omega) (by omega) g5 d5
 have l5:=congrArg List.length d5
 simp only[List.length_drop,Z0j,List.length_append] at l5
 have d6:(Zz b).drop (a5+(cnt2 (l.length-1)).length)=body (allI 0 l) (allI 1 l) none none l++z:=by rw[← List.drop_drop,d5,List.drop_left]
 have hll:1≤l.length:=by rw[hl];simp
 have hK:((if(s.f1.f0==1)=true then(some 1) else(some 0)):Option (Int))=some s.f1.f0:=by
  rcases hkd with e | e<;>rw[e]<;>rfl
 have hsc:i64.wrap ((i64.wrap (((s.f1.f1+4).toNat:Nat):Int))+(-4))=s.f1.f1:=by
  rw[Zf (n:=(((s.f1.f1+4).toNat:Nat):Int)) (by omega) (by omega),Zf (by omega) (by omega)];omega
 have hat:((if(decide (s.f1.f2<(-524288)))=true then(some true) else(some (decide (s.f1.f2>(262144:Int))))):Option (Bool))=some false:=by
  rw[if_neg (by simp;omega)];simp;omega
 obtain⟨a7,E7,g7,d7⟩:=smp_l0 hb hc hF (⟨s.f1.f0,s.f1.f1,s.f1.f2,0,0,0,[],[]⟩:Z06) (fun x hx=>hc.head s (by rw[hl];simp) x hx) (((l.length-1:Nat):Int),((a5+(cnt2 (l.length-1)).length:Nat):Int),0) (by dsimp only;omega) z l [] none none (List.replicate (Int.toNat ((2+(allI 0 l).length+(allI 1 l).length:Nat):Int)) 0) (List.replicate (Int.toNat ((2+(allI 0 l).length+(allI 1 l).length:Nat):Int)) 0) 0 0 (a5+(cnt2 (l.length-1)).length) 0 rfl rfl (.inl ⟨rfl,rfl,rfl⟩) (by rw[List.length_replicate,Int.toNat_natCast]) (by rw[List.length_replicate,Int.toNat_natCast]) (fun x hx=>by cases hx) (fun y x hy=>by cases hy) (fun _=>rfl) (by omega) d6
 have ES:Zn.f b (a5:Int) 0 (⟨s.f1.f0,s.f1.f1,s.f1.f2,0,0,0,[],[]⟩:Z06) (lay (allI 0 l)) (lay (allI 1 l))=some (l,(a7:Int),0):=by
  unfold Zn.f
  rw[show Z4.f b (a5:Int) 0 31=_ from E6,sb,Z77 iP.sm (by omega),sb,Z77 iN.sm (by omega),sb,Z5u (by omega) (by omega),chkB (by omega)]
  dsimp only
  rw[E7,sb]
 have l7:=congrArg List.length d7
 rw[List.length_drop,Z0j] at l7
 have pre:Z2i.f b=((Zp.f b (a7:Int) 0)>>=fun t3478=>if(t3478.1 != (0:Int))=true then(some ([],6)) else((Z08.f l)>>=fun t3483=>((if(t3483.2 != (0:Int))=true then(some true) else((Z16.f t3483.1 b)>>=fun t3521=>some (!t3521))):Option (Bool))>>=fun x3523=>if x3523=true then(some ([],6)) else(some (l,0)))):=by
  unfold Z2i.f Z3p.f
  rw[sb,show Z0b.f b 0 0=_ from E1,sb]
  dsimp only
  rw[hK,sb,show Zk.f b ((0+1:Nat):Int) 0 4=_ from E2,sb]
  dsimp only
  rw[E3,sb]
  dsimp only
  rw[hat,sb,if_neg (by simp),E4,sb]
  dsimp only
  rw[E5,sb]
  dsimp only
  rw[hsc,ES,sb]
 constructor
 ·intro h8
  rw[pre,end_long hb (by omega),sb,if_pos (by simp)]
 ·intro f hf hzf
  rw[hzf] at d7
  obtain⟨a',E⟩:=end_ok hb hf g7 d7
  obtain⟨y,f',EY,hY⟩:=enc_eq hc hne hF h0
  have hY2:Laid b f (Z61 l):=⟨hb.byte,hf,by rw[h,hzf]⟩
  have:=hY.unique hY2
  subst this
  rw[pre,E,sb,if_neg (by simp),EY,sb,if_neg (by simp),eqbytes y y (by omega),sb,sb,if_neg (by simp)]
end Go.Proofs.YtinhldbfifpakaaGreat.PvGL
set_option linter.unusedVariables false
set_option linter.unusedSimpArgs false
set_option maxRecDepth 10000
namespace Go.Proofs.YtinhldbfifpakaaGreat.PvGL
open Go Go.Pv Go.Pv.GS Go.IntKind
def by8 (l:List Int):List Bool:=l.flatMap fun n=>nb n.toNat 8
theorem by8_len (l:List Int):(by8 l).length=8*l.length:=by
 induction l with
 | nil=>rfl
 | cons x l ih=>simp only[by8,List.flatMap_cons,List.length_append,Z41,List.length_cons] at ih ⊢;omega
def Z4l (t:ByteArray):List Bool:=cnt2 t.size++by8 (Z43 t)
theorem Z47 (t:ByteArray):(Z43 t).length=t.size:=by simp only[Z43,List.length_map,Array.length_toList];rfl
theorem Z8q (t:ByteArray):∀ n∈Z43 t,0≤n∧n<256:=by
 intro n hn
 obtain⟨c,_,rfl⟩:=List.mem_map.1 hn
 have:=c.toNat_lt
 omega
theorem bytesL_bt {t:ByteArray} {i:Nat} {x:Int} (h:(Z43 t)[i]? = some x):bt t (i:Int)=x:=by
 unfold Z43 at h
 rw[List.getElem?_map,Array.getElem?_toList] at h
 unfold bt
 rw[Int.toNat_natCast]
 cases e:t.data[i]? with
 | none=>rw[e] at h;simp at h
 | some c=>rw[e] at h;simpa using h
theorem Za7 (t:ByteArray):Z4u (Z43 t)=t:=by
 rw[Zaw]
 have:toB (Z43 t)=t.data.toList:=by
  unfold toB Z43
  rw[List.map_map]
  conv=>rhs;rw[← List.map_id t.data.toList]
  apply List.map_congr_left
  intro c _
  simp
 rw[this]
theorem Z4t {x:List Int} (h:∀ n∈x,0≤n∧n<256):Z43 (Z4u x)=x:=by
 rw[Zaw]
 unfold Z43 toB
 simp only[List.map_map]
 conv=>rhs;rw[← List.map_id x]
 apply List.map_congr_left
 intro n hn
 have:=h n hn
 simp;omega
theorem text_l0 (t:ByteArray) (ht:t.size≤2000000):∀ (suf pre:List Int) (b:List Int) (f:Nat) (s:List Bool) (i:Int),Z43 t=pre++suf→i=(pre.length:Int)→s.length+8*suf.length<800000000→Laid b f s →
  ∃ (b':List Int) (f':Nat),Z14.l0 t b (f:Int) i=some (b',(f':Int))∧Laid b' f' (s++by8 suf):=by
 intro suf
 induction suf with
 | nil =>
  intro pre b f s i h1 hi _ hL
  have:=Z47 t
  rw[h1] at this
  refine⟨b,f,?_,by simpa[by8] using hL⟩
  rw[Z14.l0,if_neg (by simp at this;simp;omega)]
 | cons x suf ih =>
  intro pre b f s i h1 hi hs hL
  have hlen:=Z47 t
  rw[h1] at hlen
  simp only[List.length_append,List.length_cons] at hlen hs
  have hx:=Z8q t x (by rw[h1];simp)
  have hb:bt t i=x:=by rw[hi];exact bytesL_bt (by rw[h1];simp)
  obtain⟨b1,f1,e1,h2⟩:=wput hL (by omega) (n:=x) (by omega) (by omega) (k:=8) (by omega)
  rw[Z14.l0,if_pos (by simp;omega),chkB (by omega),hb,Z40 (by omega) (by omega),show(8:Int)=((8:Nat):Int) from rfl,e1,sb,Zf (n:=i+1) (by omega) (by omega)]
  obtain⟨b2,f2,e2,h3⟩:=ih (pre++[x]) b1 f1 _ (i+1) (by simp[h1]) (by simp;omega) (by rw[List.length_append,Z41];omega) h2
  refine⟨b2,f2,e2,?_⟩
  simpa[by8] using h3
theorem text_eq {b:List Int} {f:Nat} {s:List Bool} (h:Laid b f s) (t:ByteArray) (ht:t.size≤2000000) (hl:s.length<700000000) :
  ∃ (b':List Int) (f':Nat),Z14.f b (f:Int) t=some (b',(f':Int))∧Laid b' f' (s++Z4l t):=by
 unfold Z14.f
 obtain⟨b1,f1,e1,h1⟩:=Z5d h (by omega) (n:=(t.size:Int)) (by omega) (by omega)
 rw[Z40 (by omega) (by omega),e1,sb]
 rw[Int.toNat_natCast] at h1
 have:=Z22 t.size
 have hb:=Z47 t
 obtain⟨b2,f2,e2,h2⟩:=text_l0 t ht (Z43 t) [] b1 f1 _ 0 rfl rfl (by rw[List.length_append];omega) h1
 rw[e2,sb]
 exact⟨b2,f2,rfl,by rw[Z4l,← List.append_assoc];exact h2⟩
theorem u8w {v:Int} (h0:0≤v) (h1:v<256):u8.wrap v=v:=by
 simp only[IntKind.wrap,IntKind.signed,IntKind.bits];simp;omega
theorem rep_set {n i:Nat} (h:i<n) (p:List Int) (hp:p.length=i) (y:Int):(p++List.replicate (n-i) (0:Int)).set (Int.toNat (i:Int)) y=(p++[y])++List.replicate (n-(i+1)) (0:Int):=by
 rw[show n-i=(n-(i+1))+1 from by omega,List.replicate_succ]
 exact(Z7j p 0 y _ (by omega)).trans (by simp)
variable {b:List Int}
theorem tk_fwd_l0 (hb:Src b) (t:Int×Int×Int) (n:Nat) (hn:n≤1048576) (ht:t.1=(n:Int)) (z:List Bool):∀ (suf pre:List Int) (a:Nat) (i:Int),pre.length+suf.length=n→i=(pre.length:Int)→(∀ x∈suf,0≤x∧x<256)→a≤8*b.length→(Zz b).drop a=by8 suf++z →
  Z0h.l0 b t (a:Int) 0 (pre++List.replicate (n-pre.length) (0:Int)) i=some (pre++suf,((a+8*suf.length:Nat):Int),0):=by
 intro suf
 induction suf with
 | nil =>
  intro pre a i h1 hi _ _ _
  simp only[List.length_nil,Nat.add_zero] at h1
  rw[Z0h.l0,if_neg (by rw[ht];simp;omega),show n-pre.length=0 from by omega]
  simp
 | cons x suf ih =>
  intro pre a i h1 hi hx ha hd
  simp only[List.length_cons] at h1
  have hx0:=hx x (by simp)
  have hd2:(Zz b).drop a=nb x.toNat 8++(by8 suf++z):=by rw[hd];simp[by8]
  have hget:=get_fwd hb (k:=8) (by omega) (Z41 x.toNat 8) ha hd2
  rw[Zcs,Nat.mod_eq_of_lt (by omega)] at hget
  have l1:=congrArg List.length hd2
  simp only[List.length_drop,Z0j,List.length_append,Z41] at l1
  have hd3:(Zz b).drop (a+8)=by8 suf++z:=by
   rw[← List.drop_drop,hd2,List.drop_left' (Z41 ..)]
  rw[Z0h.l0,if_pos (by rw[ht];simp;omega),show(8:Int)=((8:Nat):Int) from rfl,hget,sb]
  rw[show at? (pre++List.replicate (n-pre.length) (0:Int)) i=some 0 from by
   rw[show n-pre.length=(n-(pre.length+1))+1 from by omega,List.replicate_succ];exact Z5l pre 0 _ hi,sb]
  dsimp only
  rw[hi,rep_set (by omega) pre rfl,Zf (n:=(pre.length:Int)+1) (by omega) (by omega)]
  have hw:u8.wrap ((x.toNat:Nat):Int)=x:=by rw[show((x.toNat:Nat):Int)=x from by omega];exact u8w (by omega) (by omega)
  rw[hw]
  have:=ih (pre++[x]) (a+8) ((pre.length:Int)+1) (by simp;omega) (by simp) (fun y hy=>hx y (by simp[hy])) (by omega) hd3
  simp only[List.length_append,List.length_singleton] at this
  rw[this]
  simp only[List.append_assoc,List.singleton_append,List.length_cons]
  congr 4
  omega
theorem left_ok (a e:Int):Z09.f b a e=some ():=rfl
theorem Z8w (hb:Src b) {t:ByteArray} (ht:t.size≤1048576) {a:Nat} {z:List Bool} (ha:a≤8*b.length) (h:(Zz b).drop a=Z4l t++z) :
  Z0h.f b (a:Int) 0=some (t,((a+(Z4l t).length:Nat):Int),0):=by
 have hbl:=Z47 t
 have h1:(Zz b).drop a=cnt2 t.size++(by8 (Z43 t)++z):=by rw[h,Z4l,List.append_assoc]
 have hlen:=congrArg List.length h1
 simp only[List.length_drop,Z0j,List.length_append,by8_len] at hlen
 have h2:(Zz b).drop (a+(cnt2 t.size).length)=by8 (Z43 t)++z:=by rw[← List.drop_drop,h1,List.drop_left' rfl]
 have hB:=hb.len
 unfold Z0h.f
 rw[show(1048576:Int)=((1048576:Nat):Int) from rfl,Z3l hb ht (by omega) ha h1,sb]
 dsimp only
 rw[left_ok,sb,Zf (n:=8*(b.length:Int)) (by omega) (by omega),Zf (n:=8*(b.length:Int)-_) (by omega) (by omega)]
 have hdiv:(8*(b.length:Int)-((a+(cnt2 t.size).length:Nat):Int)).tdiv 8=(((8*b.length-(a+(cnt2 t.size).length)) / 8:Nat):Int):=by
  rw[show 8*(b.length:Int)-((a+(cnt2 t.size).length:Nat):Int)=((8*b.length-(a+(cnt2 t.size).length):Nat):Int) from by omega]
  exact(Int.ofNat_tdiv _ 8).symm
 rw[hdiv,Zf (by omega) (by omega),if_neg (by simp;omega),chkB (by omega),Int.toNat_natCast]
 have:=tk_fwd_l0 hb ((t.size:Int),((a+(cnt2 t.size).length:Nat):Int),0) t.size ht rfl z (Z43 t) [] (a+(cnt2 t.size).length) 0 (by simpa using hbl) rfl (Z8q t) (by omega) h2
 simp only[List.nil_append,List.length_nil,Nat.sub_zero] at this
 rw[this,sb]
 dsimp only
 rw[Za7]
 congr 4
 rw[Z4l,List.length_append,by8_len]
 omega
theorem by8_of:∀ (m:Nat) (s:List Bool),8*m≤s.length→∃ suf:List Int,suf.length=m∧(∀ x∈suf,0≤x∧x<256)∧s=by8 suf++s.drop (8*m):=by
 intro m
 induction m with
 | zero=>intro s _;exact⟨[],rfl,by simp,by simp[by8]⟩
 | succ m ih =>
  intro s hs
  obtain⟨suf,h1,h2,h3⟩:=ih (s.drop 8) (by rw[List.length_drop];omega)
  have hv:=Zct (s.take 8)
  have hl8:(s.take 8).length=8:=by rw[List.length_take];omega
  rw[hl8] at hv
  refine⟨((val (s.take 8):Nat):Int)::suf,by simp[h1],fun x hx => ?_,?_⟩
  ·rcases List.mem_cons.1 hx with rfl | hx
   ·omega
   ·exact h2 x hx
  ·have e:=nb_val (s.take 8)
   rw[hl8] at e
   have e2:by8 (((val (s.take 8):Nat):Int)::suf)=s.take 8++by8 suf:=by
    simp only[by8,List.flatMap_cons,Int.toNat_natCast,e]
   rw[e2,List.append_assoc]
   conv=>lhs;rw[← List.take_append_drop 8 s,h3]
   rw[List.drop_drop,show 8+8*m=8*(m+1) from by omega]
theorem Zcw {a:Nat} (ha:a≤8*b.length) (hB:b.length<1000000000000) (t:Int×Int×Int) (e:Int) (h1:t.1=0) :
  (if(decide (t.1>(i64.wrap (Int.tdiv (i64.wrap ((i64.wrap ((8:Int)*(b.length:Int)))-(a:Int))) (8:Int)))))=true then((Z4.f b a e (-1))>>=fun t5309=>some ((⟨#[]⟩:ByteArray),t5309.2.1,t5309.2.2)) else((chk (0≤t.1∧t.1≤t.1∧((1:Nat):Int)*t.1≤281474976710656∧t.1≤9223372036854775807))>>=fun _=>(Z0h.l0 b t a e (List.replicate (Int.toNat t.1) (0:Int)) 0)>>=fun oo=>match oo with | (x5339,x5340,x5341)=>(some (Z4u x5339,x5340,x5341))))=some ((⟨#[]⟩:ByteArray),(a:Int),e):=by
 have hdiv:(8*(b.length:Int)-(a:Int)).tdiv 8=(((8*b.length-a) / 8:Nat):Int):=by
  rw[show 8*(b.length:Int)-(a:Int)=((8*b.length-a:Nat):Int) from by omega]
  exact(Int.ofNat_tdiv _ 8).symm
 rw[Zf (n:=8*(b.length:Int)) (by omega) (by omega),Zf (n:=8*(b.length:Int)-_) (by omega) (by omega),hdiv,Zf (by omega) (by omega),if_neg (by simp;omega),chkB (by omega),h1]
 rw[Z0h.l0,if_neg (by rw[h1];simp),sb]
 rfl
theorem Zba (hb:Src b) {a:Nat} (ha:a≤8*b.length) (e:Int):∃ (t:ByteArray) (a1:Nat) (e1:Int),Z0h.f b (a:Int) e=some (t,(a1:Int),e1)∧a1≤8*b.length∧t.size≤1048576 ∧
  (e≠0→e1≠0)∧(e=0→e1=0→(Zz b).drop a=Z4l t++(Zz b).drop a1):=by
 have hB:=hb.len
 by_cases he:e=0
 case neg =>
  refine⟨⟨#[]⟩,a,e,?_,ha,by decide,fun _=>he,fun h=>absurd h he⟩
  unfold Z0h.f
  rw[Z5v he,sb]
  dsimp only
  rw[left_ok,sb]
  exact Zcw ha (by omega) (0,(a:Int),e) e rfl
 subst he
 obtain⟨n,a1,e1,s1,s2,s3,s4⟩:=Z4w hb (m:=1048576) (by omega) ha
 rcases s4 with ⟨rfl,s5⟩ | ⟨s5,rfl⟩
 case inr =>
  refine⟨⟨#[]⟩,a1,e1,?_,s2,by decide,fun h=>absurd rfl h,fun _ h=>absurd h s5⟩
  unfold Z0h.f
  rw[show(1048576:Int)=((1048576:Nat):Int) from rfl,s1,sb]
  dsimp only
  rw[left_ok,sb]
  exact Zcw s2 (by omega) (((0:Nat):Int),(a1:Int),e1) e1 rfl
 have hdiv:(8*(b.length:Int)-(a1:Int)).tdiv 8=(((8*b.length-a1) / 8:Nat):Int):=by
  rw[show 8*(b.length:Int)-(a1:Int)=((8*b.length-a1:Nat):Int) from by omega]
  exact(Int.ofNat_tdiv _ 8).symm
 by_cases hn:n≤(8*b.length-a1) / 8
 ·have hl:8*n≤((Zz     b).drop a1).length:=by rw[List.length_drop,Z0j       ];omega
  obtain⟨suf,k1,k2,k3⟩:=by8_of n _ hl
  have hsz:(Z4u suf).size=n:=by rw[← Z47,Z4t k2,k1]
  have hB8:Z4l (Z4u suf)=cnt2 n++by8 suf:=by rw[Z4l,hsz,Z4t k2]
  have hd:(Zz b).drop a=Z4l (Z4u suf)++((Zz b).drop a1).drop (8*n):=by rw[hB8,List.append_assoc,← k3];exact s5
  have hl2:=congrArg List.length hd
  simp only[List.length_drop,Z0j,List.length_append] at hl2
  refine⟨Z4u suf,a+(Z4l (Z4u suf)).length,0,Z8w hb (by omega) ha hd,?_,by omega,fun h=>absurd rfl h,fun _ _ => ?_⟩
  ·have h3:=congrArg List.length s5
   simp only[List.length_drop,Z0j,List.length_append] at h3
   rw[hB8,List.length_append,by8_len];omega
  ·conv=>rhs;rw[← List.drop_drop,hd,List.drop_left' rfl]
   exact hd
 ·obtain⟨a2,e2,r1,r2,r3⟩:=small_neg hb s2
  refine⟨⟨#[]⟩,a2,e2,?_,r2,by decide,fun h=>absurd rfl h,fun _ h=>absurd h r3⟩
  unfold Z0h.f
  rw[show(1048576:Int)=((1048576:Nat):Int) from rfl,s1,sb]
  dsimp only
  rw[left_ok,sb,Zf (n:=8*(b.length:Int)) (by omega) (by omega),Zf (n:=8*(b.length:Int)-_) (by omega) (by omega),hdiv,Zf (by omega) (by omega),if_pos (by simp;omega),r1,sb]
end Go.Proofs.YtinhldbfifpakaaGreat.PvGL
set_option linter.unusedVariables false
set_option linter.unusedSimpArgs false
set_option maxRecDepth 100000
namespace Go.Proofs.YtinhldbfifpakaaGreat.PvGL
open Go Go.Pv Go.Pv.GS Go.IntKind
theorem laid_src {x:List Int} {f:Nat} {l:List Ze} (h:Laid x f (Z61 l)) (hc:COk l) (hk:∀ s∈l,HOk s.f1):Src x∧x.length≤400000:=by
 have h1:=h.len
 have h2:=h.lt
 have h3:=Za1 hc (fun s hs=>(hk s hs).fits)
 exact⟨⟨h.byte,by omega⟩,by omega⟩
end Go.Proofs.YtinhldbfifpakaaGreat.PvGL
set_option linter.unusedVariables false
set_option linter.unusedSimpArgs false
set_option maxRecDepth 10000
namespace Go.Proofs.YtinhldbfifpakaaGreat.PvGL
open Go Go.Pv Go.Pv.GS Go.IntKind
def Z7g (l:List Ze):Prop:=∀ pre s suf,l=pre++s::suf→Z1j.f pre s=some true
theorem fits_nil (s:Ze):Z1j.f [] s=some true:=by unfold Z1j.f;rw[if_pos (by simp)]
theorem Z7g.one (s:Ze):Z7g [s]:=by
 intro pre x suf h
 cases pre with
 | nil=>exact fits_nil x
 | cons y r=>simp at h
theorem Z7g.pre {a b:List Ze} (h:Z7g (a++b)):Z7g a:=fun pre s suf e=>h pre s (suf++b) (by rw[e];simp)
theorem Z7g.snoc {a:List Ze} {s:Ze} (h:Z7g a) (hs:Z1j.f a s=some true):Z7g (a++[s]):=by
 intro pre x suf e
 rcases List.eq_nil_or_concat suf with rfl | ⟨S,y,rfl⟩
 ·obtain⟨rfl,e2⟩:=List.append_inj' e rfl
  simp at e2;subst e2;exact hs
 ·rw[List.concat_eq_append] at e
  have e3:a++[s]=(pre++x::S)++[y]:=by rw[e];simp
  obtain⟨rfl,_⟩:=List.append_inj' e3 rfl
  exact h pre x S rfl
structure SOk (s:Ze):Prop where
 v:Z3r s.f1
 f:Fits s.f1
 t:0≤s.f0∧s.f0≤1099511627776
theorem tst (x:Int):((if(decide (x<(0:Int)))=true then(some true) else(some (decide (x>(1099511627776:Int))))):Option (Bool))=some (!decide (0≤x∧x≤1099511627776)):=by
 by_cases c:x<0
 ·rw[if_pos (by simpa using c),decide_eq_false (by omega)];rfl
 ·rw[if_neg (by simpa using c)]
  by_cases c2:x>1099511627776
  ·rw[decide_eq_true c2,decide_eq_false (by omega)];rfl
  ·rw[decide_eq_false c2,decide_eq_true (by omega)];rfl
theorem check0 {s:Ze} (h:SOk s):Z0q.f s.f1=some 0:=by
 obtain⟨r,e1,e3⟩:=Zcf s.f1 h.f
 rw[e1,e3.2 h.v]
open Classical in
theorem grow_l0 (l:List Ze) (hl:l.length≤900) (hk:∀ s∈l,SOk s):∀ (suf pre:List Ze) (i:Int),l=pre++suf→i=(pre.length:Int) →
  Z0m.l0 l i=some (if ∀ p s q,suf=p++s::q→Z1j.f (pre++p) s=some true then .inr () else .inl 6):=by
 intro suf
 induction suf with
 | nil =>
  intro pre i h1 hi
  rw[Z0m.l0,if_neg (by rw[h1];simp[hi]),if_pos (fun p s q h=>by simp at h)]
 | cons s suf ih =>
  intro pre i h1 hi
  have hlen:l.length=pre.length+(suf.length+1):=by rw[h1];simp
  have hs:=hk s (by rw[h1];simp)
  have hb:¬ ((!decide (0≤s.f0∧s.f0≤1099511627776))=true):=by rw[decide_eq_true hs.t];decide
  obtain⟨r,f1,_⟩:=fits_p pre s (by omega) (fun x hx=>by
   have:x∈l:=by rw[h1];rcases List.mem_append.1 hx with hx | hx;exact List.mem_append_left _ hx;simp at hx;subst hx;simp
   exact⟨(hk x this).v,(hk x this).f⟩) hs.t
  rw[Z0m.l0,if_pos (by simp;omega),Z1q h1 hi,sb,tst,sb,if_neg hb,check0 hs,sb,if_neg (by simp),chkB (by omega),take_pre h1 hi,Zf (n:=i+1) (by omega) (by omega),f1,sb]
  cases r with
  | false =>
   rw[if_pos (show(!false)=true from rfl),if_neg]
   intro h
   have:=h [] s suf rfl
   rw[List.append_nil,f1] at this;simp at this
  | true =>
   rw[if_neg (show ¬ ((!true)=true) by simp),ih (pre++[s]) (i+1) (by simp[h1]) (by simp;omega)]
   congr 1
   by_cases c:∀ p x q,suf=p++x::q→Z1j.f (pre++[s]++p) x=some true
   ·rw[if_pos c,if_pos]
    intro p x q e
    cases p with
    | nil=>simp at e;obtain⟨rfl,rfl⟩:=e;rw[List.append_nil];exact f1
    | cons y p=>simp at e;obtain⟨rfl,rfl⟩:=e;have:=c p x q rfl;simpa using this
   ·rw[if_neg c,if_neg]
    intro h
    refine c (fun p x q e => ?_)
    have:=h (s::p) x q (by rw[e];rfl)
    simpa using this
open Classical in
theorem grow_chk (l:List Ze) (hl:l.length≤900) (hne:l≠[]) (hk:∀ s∈l,SOk s):Z0m.f l=some (if Z7g l then 0 else 6):=by
 have hn:¬ (((l.length:Int)==0)=true):=by
  have:l.length≠0:=fun h=>hne (List.length_eq_zero_iff.1 h)
  simp;omega
 unfold Z0m.f
 rw[if_neg hn,grow_l0 l hl hk l [] 0 rfl rfl,sb]
 have e:(∀ p s q,l=p++s::q→Z1j.f ([]++p) s=some true)↔Z7g l:=by simp[Z7g]
 by_cases h:Z7g l
 ·rw[if_pos (e.2 h),if_pos h]
 ·rw[if_neg (fun x=>h (e.1 x)),if_neg h]
structure CutOK (C:List (List Ze)):Prop where
 ne:∀ c∈C,c≠[]∧Z7g c
 gap:∀ i c c',C[i]? = some c→C[i+1]? = some c'→∃ s r,c'=s::r∧Z1j.f c s=some false
theorem flat_len {C:List (List Ze)} (h:∀ c∈C,c≠[]):C.length≤C.flatten.length:=by
 induction C with
 | nil=>simp
 | cons c C ih =>
  have h1:=ih (fun x hx=>h x (by simp[hx]))
  have h2:=List.length_pos_iff.2 (h c (by simp))
  simp only[List.flatten_cons,List.length_append,List.length_cons];omega
theorem CutOK.last {D:List (List Ze)} {c c2:List Ze} {s:Ze} {r:List Ze} (h:CutOK (D++[c])) (hc:c=s::r) (hc2:∃ r2,c2=s::r2) (g:Z7g c2):CutOK (D++[c2]):=by
 obtain⟨r2,rfl⟩:=hc2
 refine⟨fun x hx => ?_,fun i x x' h1 h2 => ?_⟩
 ·rcases List.mem_append.1 hx with hx | hx
  ·exact h.ne x (by simp[hx])
  ·simp at hx;subst hx;exact⟨by simp,g⟩
 ·by_cases hi:i+1<D.length
  ·rw[List.getElem?_append_left (by omega)] at h1 h2
   exact h.gap i x x' (by rw[List.getElem?_append_left (by omega)];exact h1) (by rw[List.getElem?_append_left (by omega)];exact h2)
  ·rw[List.getElem?_append_right (by omega)] at h2
   obtain⟨h3,h4⟩:=List.getElem?_eq_some_iff.1 h2
   simp only[List.length_singleton] at h3
   have e:i+1=D.length:=by omega
   rw[List.getElem?_append_left (by omega)] at h1
   obtain⟨s',r',e1,e2⟩:=h.gap i x c (by rw[List.getElem?_append_left (by omega)];exact h1) (by rw[List.getElem?_append_right (by omega),e];simp)
   rw[hc] at e1
   obtain⟨rfl,rfl⟩:=List.cons.inj e1
   refine⟨s,r2,?_,e2⟩
   rw[← h4];simp[e]
theorem CutOK.snoc {D:List (List Ze)} {c:List Ze} {s:Ze} (h:CutOK (D++[c])) (hs:Z1j.f c s=some false):CutOK (D++[c]++[[s]]):=by
 refine⟨fun x hx => ?_,fun i x x' h1 h2 => ?_⟩
 ·rcases List.mem_append.1 hx with hx | hx
  ·exact h.ne x hx
  ·simp at hx;subst hx;exact⟨by simp,Z7g.one s⟩
 ·by_cases hi:i+1<(D++[c]).length
  ·rw[List.getElem?_append_left (by omega)] at h1 h2
   exact h.gap i x x' h1 h2
  ·rw[List.getElem?_append_right (by omega)] at h2
   obtain⟨h3,h4⟩:=List.getElem?_eq_some_iff.1 h2
   simp only[List.length_singleton] at h3
   have e:i=D.length:=by simp at hi h3;omega
   rw[List.getElem?_append_left (by simp;omega),e,List.getElem?_append_right (by omega)] at h1
   simp at h1
   subst h1
   refine⟨s,[],?_,hs⟩
   rw[← h4];simp[e]
theorem cut_l0 (l:List Ze) (hl:l.length≤900) (hk:∀ s∈l,SOk s):∀ (suf:List Ze) (dn:List (List Ze)) (cu:List Ze) (i:Int),l=dn.flatten++cu++suf→i=((dn.flatten++cu).length:Int)→CutOK (dn++[cu]) →
  ∃ C,Z29.l0 l dn cu i=some C∧C.flatten=l∧CutOK C∧((∀ p s q,suf=p++s::q→Z1j.f (cu++p) s=some true)→C=dn++[cu++suf]):=by
 intro suf
 induction suf with
 | nil =>
  intro dn cu i h1 hi hC
  refine⟨dn++[cu],?_,by rw[h1];simp,hC,fun _=>by simp⟩
  rw[Z29.l0,if_neg (by rw[h1];simp[hi])]
 | cons s suf ih =>
  intro dn cu i h1 hi hC
  have hlen:l.length=(dn.flatten++cu).length+(suf.length+1):=by rw[h1,List.length_append];rfl
  have hdn:=flat_len (C:=dn) (fun c hc=>(hC.ne c (by simp[hc])).1)
  have hn:(dn.flatten++cu).length=dn.flatten.length+cu.length:=List.length_append
  have hi1:((dn.flatten++cu++[s]).length:Int)=i+1:=by rw[hi,List.length_append];simp
  have hs:=hk s (by rw[h1];simp)
  obtain⟨r,f1,_⟩:=fits_p cu s (by omega) (fun x hx=>by
   have:x∈l:=by rw[h1];rcases List.mem_append.1 hx with hx | hx;simp[hx];simp at hx;subst hx;simp
   exact⟨(hk x this).v,(hk x this).f⟩) hs.t
  have hi2:i<1000:=by omega
  rw[Z29.l0,if_pos (decide_eq_true (by omega)),Z1q h1 hi,sb,chkB (by omega),f1,sb,Zf (n:=i+1) (by omega) (by omega)]
  cases r with
  | false =>
   rw[if_pos (show(!false)=true from rfl)]
   obtain⟨C,e1,e2,e3,e4⟩:=ih (dn++[cu]) [s] (i+1) (by rw[h1];simp) (by rw[← hi1];simp) (hC.snoc f1)
   refine⟨C,e1,e2,e3,fun h => ?_⟩
   have:=h [] s suf rfl
   rw[List.append_nil,f1] at this;simp at this
  | true =>
   have hcu:=hC.ne cu (by simp)
   obtain⟨x,R,hx⟩:∃ x R,cu=x::R:=by cases cu with | nil=>exact absurd rfl hcu.1 | cons x R=>exact⟨x,R,rfl⟩
   rw[if_neg (show ¬ ((!true)=true) by simp),chkB (by omega)]
   obtain⟨C,e1,e2,e3,e4⟩:=ih dn (cu++[s]) (i+1) (by rw[h1];simp) (by rw[← hi1];simp) (hC.last hx ⟨R++[s],by rw[hx];rfl⟩ (hcu.2.snoc f1))
   refine⟨C,e1,e2,e3,fun h => ?_⟩
   rw[e4 (fun p y q e=>by have:=h (s::p) y q (by rw[e];rfl);simpa using this)]
   simp
theorem cut_ok (l:List Ze) (hl:l.length≤900) (hk:∀ s∈l,SOk s):∃ C,Z29.f l=some C∧C.flatten=l∧CutOK C∧(l≠[]→Z7g l→C=[l]):=by
 unfold Z29.f
 cases l with
 | nil=>exact⟨[],rfl,rfl,⟨by simp,by simp⟩,by simp⟩
 | cons s suf =>
  rw[if_pos (by simp),show at? (s::suf) 0=some s from rfl,sb,Zf (by omega) (by omega)]
  obtain⟨C,e1,e2,e3,e4⟩:=cut_l0 (s::suf) hl hk suf [] [s] (0+1) (by simp) (by simp) ⟨by simp;exact Z7g.one s,by intro i c c' h1 h2;cases i<;>simp at h2⟩
  refine⟨C,e1,e2,e3,fun _ h => ?_⟩
  rw[e4 (fun p x q e=>h ([s]++p) x q (by rw[e];rfl))]
  rfl
end Go.Proofs.YtinhldbfifpakaaGreat.PvGL
set_option linter.unusedVariables false
set_option linter.unusedSimpArgs false
set_option maxRecDepth 100000
namespace Go.Proofs.YtinhldbfifpakaaGreat.PvGL
open Go Go.Pv Go.Pv.GS Go.IntKind
theorem Zcj:Z2n.f=some true:=by cbv
def Zcv (t:Int):Bool:=decide (0≤t∧t≤1099511627776)
open Classical in
noncomputable def sok (s:Ze):Bool:=Zcv s.f0&&decide (Z3r s.f1)
def aft (p:Option Ze) (s:Ze):Bool:=match p with
 | none=>true
 | some q=>decide (q.f0<s.f0)
noncomputable def good (p:Option Ze) (s:Ze):Bool:=sok s&&aft p s
noncomputable def rise:Option Ze→List Ze→Bool
 | _,[]=>true
 | p,s::l=>good p s&&rise (some s) l
def lst:Option Ze→List Ze→Option Ze
 | p,[]=>p
 | _,s::l=>lst (some s) l
theorem lst_app (a b:List Ze):∀ p,lst p (a++b)=lst (lst p a) b:=by
 induction a with
 | nil=>intro p;rfl
 | cons s a ih=>intro p;exact ih _
theorem lst_snoc (a:List Ze) (s:Ze) (p:Option Ze):lst p (a++[s])=some s:=by rw[lst_app];rfl
def flow (b:Bool):Bool ⊕ Unit:=match b with
 | true =>.inr ()
 | false =>.inl false
theorem ris_step (s:Ze) (hf:Fits s.f1) {l pre suf:List Ze} {i:Int} (h1:l=pre++s::suf) (hi:i=(pre.length:Int)) (hl:l.length<1000000000000000) :
  ((if(decide (s.f0<(0:Int)))=true then(some true) else(if(decide (s.f0>(1099511627776:Int)))=true then(some true) else((Z0q.f s.f1)>>=fun t508=>if(t508 != (0:Int))=true then(some true) else(if(decide (i>(0:Int)))=true then((at? l (i64.wrap (i-(1:Int))))>>=fun b512=>some (decide (b512.f0≥s.f0))) else(some false))))):Option (Bool))=some (!good (lst none pre) s):=by
 have hlen:l.length=pre.length+(suf.length+1):=by rw[h1];simp
 by_cases t0:s.f0<0
 ·rw[if_pos (decide_eq_true t0)]
  have:Zcv s.f0=false:=decide_eq_false (by omega)
  simp[good,sok,this]
 rw[if_neg (by simpa using t0)]
 by_cases t1:s.f0>1099511627776
 ·rw[if_pos (decide_eq_true t1)]
  have:Zcv s.f0=false:=decide_eq_false (by omega)
  simp[good,sok,this]
 rw[if_neg (by simpa using t1)]
 have ht:Zcv s.f0=true:=decide_eq_true (by omega)
 obtain⟨e,e1,e3⟩:=Zcf s.f1 hf
 rw[e1,sb]
 by_cases he:e=0
 case neg =>
  rw[if_pos (by simpa using he)]
  have:¬ Z3r s.f1:=fun h=>he (e3.2 h)
  simp[good,sok,this]
 rw[if_neg (by simpa using he)]
 have hv:=e3.1 he
 rcases List.eq_nil_or_concat pre with rfl | ⟨Q,q,rfl⟩
 ·rw[if_neg (by simp[hi])]
  simp[good,sok,ht,hv,lst,aft]
 ·rw[List.concat_eq_append] at *
  have hi3:i=(Q.length:Int)+1:=by rw[hi];simp
  simp only[List.length_append,List.length_singleton] at hlen
  rw[if_pos (decide_eq_true (by omega)),Zf (n:=i-1) (by omega) (by omega)]
  rw[show at? l (i-1)=some q from Z1q (pre:=Q) (suf:=s::suf) (by rw[h1];simp) (by omega),sb,lst_snoc]
  simp only[good,sok,ht,hv,aft,Bool.true_and,decide_true]
  congr 1
  by_cases c:q.f0<s.f0
  ·rw[decide_eq_false (by omega),decide_eq_true c];rfl
  ·rw[decide_eq_true (by omega),decide_eq_false c];rfl
theorem ris_l0 (l:List Ze) (hl:l.length<1000000000000000) (hf:∀ s∈l,Fits s.f1):∀ (suf pre:List Ze) (i:Int),l=pre++suf→i=(pre.length:Int)→Z1o.l0 l i=some (flow (rise (lst none pre) suf)):=by
 intro suf
 induction suf with
 | nil=>intro pre i h1 hi;rw[Z1o.l0,if_neg (by rw[h1];simp[hi])];rfl
 | cons s suf ih =>
  intro pre i h1 hi
  have hlen:l.length=pre.length+(suf.length+1):=by rw[h1];simp
  have hst:=ris_step s (hf s (by rw[h1];simp)) h1 hi hl
  have hr:rise (lst none pre) (s::suf)=(good (lst none pre) s&&rise (some s) suf):=rfl
  rw[hr]
  cases g:good (lst none pre) s with
  | false =>
   rw[g] at hst
   rw[Z1o.l0,if_pos (by simp;omega),Z1q h1 hi,sb,hst,sb,if_pos (show(!false)=true from rfl)]
   rfl
  | true =>
   rw[g] at hst
   rw[Z1o.l0,if_pos (by simp;omega),Z1q h1 hi,sb,hst,sb,if_neg (show ¬ (!true)=true by simp),Zf (n:=i+1) (by omega) (by omega),ih (pre++[s]) (i+1) (by simp[h1]) (by simp;omega),lst_snoc,Bool.true_and]
theorem ris_eq (l:List Ze) (hl:l.length<1000000000000000) (hf:∀ s∈l,Fits s.f1):Z1o.f l=some (rise none l):=by
 unfold Z1o.f
 rw[ris_l0 l hl hf l [] 0 rfl rfl,sb]
 show(match flow (rise none l) with | .inl rr=>(some rr) | .inr _=>(some true))=some (rise none l)
 obtain⟨b,hb⟩:∃ b,rise none l=b:=⟨_,rfl⟩
 rw[hb];cases b<;>rfl
end Go.Proofs.YtinhldbfifpakaaGreat.PvGL
set_option linter.unusedVariables false
set_option linter.unusedSimpArgs false
set_option maxRecDepth 10000
namespace Go.Proofs.YtinhldbfifpakaaGreat.PvGL
open Go Go.Pv Go.Pv.GS Go.IntKind
theorem sok_of {s:Ze} (h:SOk s):sok s=true:=by
 unfold sok Zcv
 simp[h.t,h.v]
theorem sok_inv {s:Ze} (hf:Fits s.f1) (h:sok s=true):SOk s:=by
 unfold sok Zcv at h
 simp only[Bool.and_eq_true,decide_eq_true_eq] at h
 exact⟨h.2,hf,h.1⟩
theorem SOk.cok {s:Ze} (h:SOk s):COk [s]:=fit_nil s h.v h.t
theorem SOk.hok {s:Ze} (h:SOk s):HOk s.f1:=⟨h.f,h.v.pos.len,h.v.neg.len⟩
def encX (l:List Ze):List Int:=((Z08.f l).getD ([],0)).1
theorem encX_eq {l:List Ze} (hc:COk l) (hne:l≠[]) (hk:∀ s∈l,HOk s.f1) (h0:Z0m.f l=some 0):Z08.f l=some (encX l,0)∧(∃ f,Laid (encX l) f (Z61 l))∧(encX l).length≤400000:=by
 obtain⟨x,f,e,h⟩:=enc_eq hc hne (fun s hs=>(hk s hs).fits) h0
 have hx:encX l=x:=by unfold encX;rw[e];rfl
 rw[hx]
 exact⟨e,⟨f,h⟩,(laid_src h hc hk).2⟩
def smpB (s:Ze):List Bool:=cnt2 1++Z4l (Z4u (encX [s]))
theorem Z7y {x:List Int} {f:Nat} {s:List Bool} (h:Laid x f s):∀ n∈x,0≤n∧n<256:=fun n hn=>h.byte n hn
theorem Zbl {s:Ze} (h:SOk s):Z29.f [s]=some [[s]]∧Z08.f [s]=some (encX [s],0)∧(∃ f,Laid (encX [s]) f (Z61 [s]))∧(encX [s]).length≤400000∧Z0m.f [s]=some 0:=by
 have hk:∀ x∈[s],SOk x:=by intro x hx;simp at hx;subst hx;exact h
 obtain⟨C,c1,_,_,c4⟩:=cut_ok [s] (by simp) hk
 have:=c4 (by simp) (Z7g.one s)
 subst this
 have h0:Z0m.f [s]=some 0:=by rw[grow_chk [s] (by simp) (by simp) hk,if_pos (Z7g.one s)]
 obtain⟨e1,e2,e3⟩:=encX_eq h.cok (by simp) (by intro x hx;simp at hx;subst hx;exact h.hok) h0
 exact⟨c1,e1,e2,e3,h0⟩
theorem samples1 {b:List Int} {f:Nat} {st:List Bool} (h:Laid b f st) {s:Ze} (hs:SOk s) (hl:st.length<600000000) :
  ∃ (b':List Int) (f':Nat),Z1a.f b (f:Int) [s]=some (b',(f':Int))∧Laid b' f' (st++smpB s):=by
 obtain⟨c1,c2,⟨g,hL⟩,c3,_⟩:=Zbl hs
 unfold Z1a.f
 rw[c1,sb]
 obtain⟨b1,f1,e1,h1⟩:=Z5d h (by omega) (n:=1) (by omega) (by omega)
 rw[show((([[s]]:List (List Ze)).length:Nat):Int)=1 from rfl,Z40 (by omega) (by omega),e1,sb]
 have hsz:(Z4u (encX [s])).size=(encX [s]).length:=by rw[← Z47,Z4t (Z7y hL)]
 have:=Z22 1
 obtain⟨b2,f2,e2,h2⟩:=text_eq h1 (Z4u (encX [s])) (by omega) (by rw[List.length_append,show((1:Int).toNat)=1 from rfl];omega)
 rw[Z1a.l0,if_pos (by simp),show at? [[s]] (0:Int)=some [s] from rfl,sb,c2,sb,e2,sb,Zf (n:=0+1) (by omega) (by omega),Z1a.l0,if_neg (by simp),sb]
 exact⟨b2,f2,rfl,by rw[smpB,← List.append_assoc];exact h2⟩
variable {b:List Int}
theorem Z9f (a e:Int):Zs.f b a e=some ():=rfl
theorem smp_src {x:List Int} {f:Nat} {l:List Ze} (h:Laid x f (Z61 l)) (hl:x.length≤400000):Src x:=⟨h.byte,by omega⟩
theorem sampled_fwd (hb:Src b) {s:Ze} (hs:SOk s) {a:Nat} {z:List Bool} (ha:a≤8*b.length) (h:(Zz b).drop a=smpB s++z) :
  Z0i.f b (a:Int) 0=some ([s],true,((a+(smpB s).length:Nat):Int),0):=by
 obtain⟨c1,c2,⟨g,hL⟩,c3,c4⟩:=Zbl hs
 have h1:(Zz b).drop a=cnt2 1++(Z4l (Z4u (encX [s]))++z):=by rw[h,smpB,List.append_assoc]
 have h2:(Zz b).drop (a+(cnt2 1).length)=Z4l (Z4u (encX [s]))++z:=by rw[← List.drop_drop,h1,List.drop_left' rfl]
 have hlen:=congrArg List.length h1
 simp only[List.length_drop,Z0j,List.length_append] at hlen
 have hsz:(Z4u (encX [s])).size=(encX [s]).length:=by rw[← Z47,Z4t (Z7y hL)]
 have hB:=hb.len
 have hsrc:=smp_src hL c3
 have hk:∀ x∈[s],HOk x.f1:=by intro x hx;simp at hx;subst hx;exact hs.hok
 have hd:=(dec_fwd hsrc hs.cok (by simp) hk c4 (List.replicate g false) hL.bits).2 g hL.lt rfl
 unfold Z0i.f
 rw[show(65536:Int)=((65536:Nat):Int) from rfl,Z3l hb (n:=1) (by omega) (by omega) ha h1,sb]
 dsimp only
 rw[Z0i.l0,if_pos (by simp),Z9f,sb,sb,if_pos (by simp),Z8w hb (by omega) (by omega) h2,sb]
 dsimp only
 rw[Z4t (Z7y hL),hd,sb,if_neg (by simp),chkB (by simp),List.nil_append,Zf (n:=0+1) (by omega) (by omega),Z0i.l0,if_neg (by simp),sb,if_neg (by simp),sb]
 dsimp only
 rw[ris_eq [s] (by simp) (by intro x hx;simp at hx;subst hx;exact hs.f),sb]
 have:rise none [s]=true:=by simp[rise,good,aft,sok_of hs]
 rw[this]
 congr 5
 rw[smpB,List.length_append];omega
end Go.Proofs.YtinhldbfifpakaaGreat.PvGL
set_option linter.unusedVariables false
set_option linter.unusedSimpArgs false
set_option maxRecDepth 10000
namespace Go.Proofs.YtinhldbfifpakaaGreat.PvGL
open Go Go.Pv Go.Pv.GS Go.IntKind
structure Chu (c:List Ze):Prop where
 cok:COk c
 ne:c≠[]
 k:∀ s∈c,HOk s.f1
 h0:Z0m.f c=some 0
def chusB (D:List (List Ze)):List Bool:=D.flatMap fun c=>Z4l (Z4u (encX c))
variable {b:List Int}
theorem smp_tot_l0 (hb:Src b) (t:Int×Int×Int) (n:Nat) (hn:n≤65536) (ht:t.1=(n:Int)):∀ (m:Nat) (acc:List Ze) (a:Nat) (e i:Int),i+m=n→0≤i→(acc.length:Int)≤32*i→a≤8*b.length →
  (∃ (a1:Nat) (e1:Int),Z0i.l0 b t (a:Int) e acc i=some (.inl ([],false,(a1:Int),e1))∧a1≤8*b.length∧(e≠0→e1≠0)) ∨
  ∃ (D:List (List Ze     )) (a1:Nat) (e1:Int),                Z0i.l0 b t (a:Int) e acc i=some (.inr (acc++D.flatten,(a1:Int),e1))∧a1≤8*b.length∧(e≠0→e1≠0)∧(∀ c∈D,Chu c)∧D.length≤m ∧
   (e=0→e1=0→D.length=m∧(Zz b).drop a=chusB D++(Zz b).drop a1):=by
 intro m
 induction m with
 | zero =>
  intro acc a e i hi h0 hacc ha
  refine .inr ⟨[],a,e,?_,ha,fun h=>h,by simp,by simp,fun _ _=>⟨rfl,by simp[chusB]⟩⟩
  rw[Z0i.l0,if_neg (by rw[ht];simp;omega),sb,if_neg (by simp)]
  simp
 | succ m ih =>
  intro acc a e i hi h0 hacc ha
  by_cases he:e=0
  case neg =>
   refine .inr ⟨[],a,e,?_,ha,fun h=>h,by simp,by simp,fun h=>absurd h he⟩
   rw[Z0i.l0,if_pos (by rw[ht];simp;omega),Z9f,sb,sb,if_neg (by simpa using he)]
   simp
  subst he
  obtain⟨x,a1,e1,k1,k2,k3,_,k5⟩:=Zba hb ha 0
  have hxl:=Z47 x
  have hsrc:Src (Z43 x):=⟨Z8q x,by omega⟩
  obtain⟨l,d,D1,hr⟩:=dec_tot hsrc
  rw[Z0i.l0,if_pos (by rw[ht];simp;omega),Z9f,sb,sb,if_pos (by simp),k1,sb]
  dsimp only
  rw[D1,sb]
  dsimp only
  rcases hr with ⟨rfl,rfl⟩ | ⟨rfl,hc,hne,hk,h00,f,hL⟩
  ·refine .inl ⟨a1,e1,by rw[if_pos (by simp)],k2,fun h=>absurd rfl h⟩
  ·have h32:=hc.len
   rw[if_neg (by simp),chkB (by omega),Zf (n:=i+1) (by omega) (by omega)]
   have hX:Z43 x=encX l:=by
    obtain⟨_,⟨f2,h2⟩,_⟩:=encX_eq hc hne hk h00
    exact hL.unique h2
   have hx:x=Z4u (encX l):=by rw[← hX,Za7]
   have hchu:Chu l:=⟨hc,hne,hk,h00⟩
   rcases ih (acc++l) a1 e1 (i+1) (by omega) (by omega) (by simp;omega) k2 with ⟨a2,e2,r1,r2,r3⟩ | ⟨D,a2,e2,r1,r2,r3,r4,r5,r6⟩
   ·exact .inl ⟨a2,e2,r1,r2,fun h=>absurd rfl h⟩
   ·refine .inr ⟨l::D,a2,e2,?_,r2,fun h=>absurd rfl h,?_,by simp;omega,fun _ h2 => ?_⟩
    ·rw[r1];simp
    ·intro c hc;rcases List.mem_cons.1 hc with rfl | hc
     ·exact hchu
     ·exact r4 c hc
    ·have h1:e1=0:=by
      by_cases h:e1=0
      ·exact h
      ·exact absurd h2 (r3 h)
     obtain⟨q1,q2⟩:=r6 h1 h2
     refine⟨by simp[q1],?_⟩
     rw[k5 rfl h1,q2,hx]
     simp[chusB]
theorem sampled_tot (hb:Src b) {a:Nat} (ha:a≤8*b.length) (e:Int):∃ (l:List Ze) (ok:Bool) (a1:Nat) (e1:Int),Z0i.f b (a:Int) e=some (l,ok,(a1:Int),e1)∧a1≤8*b.length∧(e≠0→e1≠0) ∧
  (ok=true→∃ D:List (List Ze),l=D.flatten∧rise none l=true∧(∀ c∈D,Chu c)∧D.length≤65536∧(e=0→e1=0→(Zz b).drop a=cnt2 D.length++chusB D++(Zz b).drop a1)):=by
 have hB:=hb.len
 obtain⟨n,a0,e0,s1,s2,s3,s4,s5⟩:∃ (n a0:Nat) (e0:Int),Z4.f b (a:Int) e 65536=some ((n:Int),(a0:Int),e0)∧a0≤8*b.length∧n≤65536∧(e≠0→e0≠0)∧(e=0→e0=0→(Zz b).drop a=cnt2 n++(Zz b).drop a0):=by
  by_cases he:e=0
  ·subst he
   obtain⟨n,a0,e0,s1,s2,s3,s4⟩:=Z4w hb (m:=65536) (by omega) ha
   refine⟨n,a0,e0,s1,s2,s3,fun h=>absurd rfl h,fun _ h => ?_⟩
   rcases s4 with ⟨_,s4⟩ | ⟨s4,_⟩
   ·exact s4
   ·exact absurd h s4
  ·exact⟨0,a,e,Z5v he,ha,by omega,fun h=>h,fun h=>absurd h he⟩
 unfold Z0i.f
 rw[s1,sb]
 dsimp only
 rcases smp_tot_l0 hb ((n:Int),(a0:Int),e0) n s3 rfl n [] a0 e0 0 (by omega) (by omega) (by simp) s2 with ⟨a1,e1,r1,r2,r3⟩ | ⟨D,a1,e1,r1,r2,r3,r4,r5,r6⟩
 ·rw[r1,sb]
  exact⟨[],false,a1,e1,rfl,r2,fun h=>r3 (s4 h),by simp⟩
 ·rw[r1,sb]
  dsimp only
  rw[List.nil_append]
  have hf:∀ s∈D.flatten,Fits s.f1:=fun s hs=>by
   obtain⟨c,hc,hs⟩:=List.mem_flatten.1 hs
   exact((r4 c hc).k s hs).fits
  have hlen:∀ (D:List (List Ze)),(∀ c∈D,Chu c)→D.flatten.length≤32*D.length:=by
   intro D
   induction D with
   | nil=>simp
   | cons c D ih =>
    intro h
    have:=(h c (by simp)).cok.len
    have:=ih (fun x hx=>h x (by simp[hx]))
    simp only[List.flatten_cons,List.length_append,List.length_cons];omega
  have:=hlen D r4
  rw[ris_eq _ (by omega) hf,sb]
  refine⟨_,_,a1,e1,rfl,r2,fun h=>r3 (s4 h),fun hok=>⟨D,rfl,hok,r4,by omega,fun h1 h2 => ?_⟩⟩
  have h0:e0=0:=by
   by_cases h:e0=0
   ·exact h
   ·exact absurd h2 (r3 h)
  obtain⟨q1,q2⟩:=r6 h0 h2
  rw[s5 h1 h0,q2,q1,List.append_assoc]
theorem one_of {D:List (List Ze)} {l:List Ze} (h:l=D.flatten) (hD:∀ c∈D,Chu c) (h1:l.length=1):∃ s,l=[s]∧D=[[s]]∧SOk s∧cnt2 D.length++chusB D=smpB s:=by
 obtain⟨s,rfl⟩:=List.length_eq_one_iff.1 h1
 have hd:=flat_len (fun c hc=>(hD c hc).ne)
 rw[← h] at hd
 simp only[List.length_singleton] at hd
 cases D with
 | nil=>simp at h
 | cons c D =>
  cases D with
  | cons x D=>simp at hd
  | nil =>
   simp at h
   subst h
   have hc:=hD [s] (by simp)
   refine⟨s,rfl,rfl,⟨(hc.cok.ok s (by simp)).1,(hc.k s (by simp)).fits,(hc.cok.ok s (by simp)).2⟩,?_⟩
   simp[chusB,smpB]
end Go.Proofs.YtinhldbfifpakaaGreat.PvGL
