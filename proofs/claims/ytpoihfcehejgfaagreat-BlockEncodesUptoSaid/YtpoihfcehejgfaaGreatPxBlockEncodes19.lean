import Derived.Test.YtpoihfcehejgfaaGreatPxBlockEncodes18
set_option linter.unusedVariables false
set_option linter.unusedSimpArgs false
set_option maxRecDepth 100000
namespace Go.Proofs.YtpoihfcehejgfaaGreat.PvGS1
open Go Go.Pv Go.Pv.GS Go.IntKind
variable {b:List Int}
theorem Zal {p n:Nat} (hp:p≤1000000) (hn:n≤1000000):i64.wrap (i64.wrap ((2:Int)+(p:Int))+(n:Int))=((2+p+n:Nat):Int):=by
 rw[Z8 (n:=(2:Int)+(p:Int)) (by omega) (by omega),Z8 (by omega) (by omega)];omega
theorem s1_0 (hb:Src b) (H:Zi) (L M:Zf) (t:Int×Int×Int) (P N:List Int) (hP:P.length≤1000000) (hN:N.length≤1000000) (la:Int) (o:List Z6) (tm:Int) (step:List Int) (z:List Bool) :
  ∀ (sn pn sx:List Int) (a:Nat) (k:Int),pn.length+sn.length=2+P.length+N.length→sx.length=sn.length→k=(pn.length:Int)→(∀ n∈sn,U64 n)→a≤8*b.length→(Z0c b).drop a=row0 sn++z →
  ∃ a':Nat,Zo.l1 b H L M t P N la o 0 tm (a:Int) 0 (pn++sx) step k=some ((a':Int),0,pn++sn,step)∧a'≤8*b.length∧(Z0c b).drop a'=z:=by
 intro sn
 induction sn with
 | nil =>
  intro pn sx a k h1 h2 hk _ ha h;have hsx:sx=[]:=List.length_eq_zero_iff.1 (by simpa using h2);subst hsx;rw[Zo.l1,Zal hP hN,if_neg (by simp at h1 ⊢;omega)];exact⟨a,rfl,ha,by simpa[row0] using h⟩
 | cons n sn ih =>
  intro pn sx a k h1 h2 hk hu ha h;cases sx with
  | nil=>simp at h2
  | cons x sx =>
   simp only[List.length_cons] at h1 h2;have hn:=hu n (by simp);rw[Zdq,List.append_assoc] at h;have c:=Zee hb (n:=n.toNat) (by have:=hn.1;have:=hn.2;omega) ha h;have l1:=congrArg List.length h;simp only[List.length_drop,Z1b,List.length_append] at l1;rw[Int.toNat_of_nonneg hn.1] at c;rw[Zo.l1,Zal hP hN,if_pos (by simp;omega),if_pos (by simp),c,sb,Z7b pn x sx hk,sb,sb];dsimp only;rw[Z9k pn x n sx hk,Z8 (n:=k+1) (by omega) (by omega)];obtain⟨a',e,g1,g2⟩:=ih (pn++[n]) sx (a+(cnt2 n.toNat).length) (k+1) (by simp;omega) (by omega) (by simp;omega) (fun m hm=>hu m (by simp[hm])) (by omega) (by rw[← List.drop_drop,h,List.drop_left]);rw[List.append_assoc,List.singleton_append,List.append_assoc,List.singleton_append] at e;exact⟨a',e,g1,g2⟩
theorem back1 {n w:Int} (hn:U64 n):u64.wrap (w+u64.wrap (i64.wrap (u64.wrap (n-w))))=n:=by
 have:=hn.1;have:=hn.2;simp only[Z6a,Z71];omega
theorem s1_1 (hb:Src b) (H:Zi) (L M:Zf) (t:Int×Int×Int) (P N:List Int) (hP:P.length≤1000000) (hN:N.length≤1000000) (la:Int) (o:List Z6) (tm:Int) (z:List Bool) :
  ∀ (sn pn sw ss ps:List Int) (a:Nat) (k:Int),pn.length+sn.length=2+P.length+N.length→sw.length=sn.length→ss.length=sn.length→ps.length=pn.length→k=(pn.length:Int)→(∀ n∈sn,U64 n)→a≤8*b.length→(Z0c b).drop a=row1 sn sw++z →
  ∃ a':Nat,Zo.l1 b H L M t P N la o 1 tm (a:Int) 0 (pn++sw) (ps++ss) k=some ((a':Int),0,pn++sn,ps++subR sn sw)∧a'≤8*b.length∧(Z0c b).drop a'=z:=by
 intro sn
 induction sn with
 | nil =>
  intro pn sw ss ps a k h1 h2 h3 h4 hk _ ha h;have hsw:sw=[]:=List.length_eq_zero_iff.1 (by simpa using h2);have hss:ss=[]:=List.length_eq_zero_iff.1 (by simpa using h3);subst hsw;subst hss;rw[Zo.l1,Zal hP hN,if_neg (by simp at h1 ⊢;omega)];exact⟨a,by simp[subR],ha,by simpa[row1] using h⟩
 | cons n sn ih =>
  intro pn sw ss ps a k h1 h2 h3 h4 hk hu ha h;cases sw with
  | nil=>simp at h2
  | cons w sw =>
   cases ss with
   | nil=>simp at h3
   | cons v ss =>
    simp only[List.length_cons] at h1 h2 h3;have hn:=hu n (by simp);rw[Z8j,List.append_assoc] at h;have c:=Ze6 hb (Za4 (u64.wrap (n-w))) ha h;have l1:=congrArg List.length h;simp only[List.length_drop,Z1b,List.length_append] at l1;have hst:u64.wrap (i64.wrap (u64.wrap (n-w)))=u64.wrap (n-w):=by simp only[Z6a,Z71];omega
    have hbk:=back1 (w:=w) hn;rw[hst] at hbk;rw[Zo.l1,Zal hP hN,if_pos (by simp;omega),if_neg (by simp),if_pos (by simp),c,sb,Z7b ps v ss (by omega),sb,Z7b pn w sw hk,sb];dsimp only;rw[Z9k ps v _ ss (by omega),Z7b ps _ ss (by omega),sb,sb];dsimp only;rw[sb];dsimp only;rw[Z9k pn w _ sw hk,hst,hbk,Z8 (n:=k+1) (by omega) (by omega)];obtain⟨a',e,g1,g2⟩:=ih (pn++[n]) sw ss (ps++[u64.wrap (n-w)]) (a+(intB (i64.wrap (u64.wrap (n-w)))).length) (k+1) (by simp;omega) (by omega) (by omega) (by simp;omega) (by simp;omega) (fun m hm=>hu m (by simp[hm])) (by omega) (by rw[← List.drop_drop,h,List.drop_left]);rw[List.append_assoc,List.singleton_append,List.append_assoc,List.singleton_append,List.append_assoc,List.singleton_append,List.append_assoc,List.singleton_append] at e;exact⟨a',by rw[Z74];exact e,g1,g2⟩
theorem s1_2 (hb:Src b) (H:Zi) (L M:Zf) (t:Int×Int×Int) (P N:List Int) (hP:P.length≤1000000) (hN:N.length≤1000000) (la:Int) (o:List Z6) (i tm:Int) (hi:2≤i) (z:List Bool) :
  ∀ (sn pn sw ss ps:List Int) (a:Nat) (k:Int),pn.length+sn.length=2+P.length+N.length→sw.length=sn.length→ss.length=sn.length→ps.length=pn.length→k=(pn.length:Int)→(∀ n∈sn,U64 n)→a≤8*b.length→(Z0c b).drop a=row1 (subR sn sw) ss++z →
  ∃ a':Nat,Zo.l1 b H L M t P N la o i tm (a:Int) 0 (pn++sw) (ps++ss) k=some ((a':Int),0,pn++sn,ps++subR sn sw)∧a'≤8*b.length∧(Z0c b).drop a'=z:=by
 intro sn
 induction sn with
 | nil =>
  intro pn sw ss ps a k h1 h2 h3 h4 hk _ ha h;have hsw:sw=[]:=List.length_eq_zero_iff.1 (by simpa using h2);have hss:ss=[]:=List.length_eq_zero_iff.1 (by simpa using h3);subst hsw;subst hss;rw[Zo.l1,Zal hP hN,if_neg (by simp at h1 ⊢;omega)];exact⟨a,by simp[subR],ha,by simpa[row1,subR] using h⟩
 | cons n sn ih =>
  intro pn sw ss ps a k h1 h2 h3 h4 hk hu ha h;cases sw with
  | nil=>simp at h2
  | cons w sw =>
   cases ss with
   | nil=>simp at h3
   | cons v ss =>
    simp only[List.length_cons] at h1 h2 h3;have hn:=hu n (by simp);rw[Z74,Z8j,List.append_assoc] at h;have c:=Ze6 hb (Za4 (u64.wrap (u64.wrap (n-w)-v))) ha h;have l1:=congrArg List.length h;simp only[List.length_drop,Z1b,List.length_append] at l1;have hst:u64.wrap (v+u64.wrap (i64.wrap (u64.wrap (u64.wrap (n-w)-v))))=u64.wrap (n-w):=by simp only[Z6a,Z71];omega
    have hbk:u64.wrap (w+u64.wrap (n-w))=n:=by
     have:=hn.1;have:=hn.2;simp only[Z6a];omega
    rw[Zo.l1,Zal hP hN,if_pos (by simp;omega),if_neg (by simp;omega),if_neg (by simp;omega),Z7b ps v ss (by omega),sb,c,sb,Z7b pn w sw hk,sb];dsimp only;rw[Z9k ps v _ ss (by omega),Z7b ps _ ss (by omega),sb,sb];dsimp only;rw[sb];dsimp only;rw[Z9k pn w _ sw hk,hst,hbk,Z8 (n:=k+1) (by omega) (by omega)];obtain⟨a',e,g1,g2⟩:=ih (pn++[n]) sw ss (ps++[u64.wrap (n-w)]) (a+(intB (i64.wrap (u64.wrap (u64.wrap (n-w)-v)))).length) (k+1) (by simp;omega) (by omega) (by omega) (by simp;omega) (by simp;omega) (fun m hm=>hu m (by simp[hm])) (by omega) (by rw[← List.drop_drop,h,List.drop_left]);rw[List.append_assoc,List.singleton_append,List.append_assoc,List.singleton_append,List.append_assoc,List.singleton_append,List.append_assoc,List.singleton_append] at e;exact⟨a',by rw[Z74];exact e,g1,g2⟩
theorem make_id {h g:Zi} (v:Z27 h) (f:Fits h) (e0:g.f0=h.f0) (e1:g.f1=h.f1) (e2:g.f2=h.f2) (e3:g.f3=h.f3) (e5:g.f5=h.f5):Z3l.f g h.f6 h.f7=some (h,0):=by
 have m0:=v.pos.len;have m1:=v.neg.len;have ht:=v.total;have t1:=tidy_id h.f6 (by omega) (fun y hy=>(f.pos y hy).2) v.pos.canon;have t2:=tidy_id h.f7 (by omega) (fun y hy=>(f.neg y hy).2) v.neg.canon;have t3:=total3 h.f6 h.f7 h.f3 (by omega) (by omega) (fun y hy=>(f.pos y hy).2) (fun y hy=>(f.neg y hy).2) f.zero;rw[if_pos ht,← v.count] at t3;unfold Z3l.f;rw[t1,sb,t2,sb,if_neg (by simp),e3,t3,sb,if_neg (by simp),e0,e1,e2,e5];dsimp only;rw[show Z0f.f (⟨h.f0,h.f1,h.f2,h.f3,h.f4,h.f5,h.f6,h.f7⟩:Zi)=_ from check_T h f v,sb,if_neg (by simp)]
theorem cut_p (h:Zi) (P N:List Int):((Z1k h P N).drop (Int.toNat (2:Int))).take (Int.toNat (((2+P.length:Nat):Int))-Int.toNat (2:Int))=P.map (tot h.f6):=by
 have e:(Z1k h P N).drop 2=P.map (tot h.f6)++N.map (tot h.f7):=by unfold Z1k;simp
 rw[show Int.toNat (2:Int)=2 from rfl,e,Int.toNat_natCast,Nat.add_sub_cancel_left,List.take_left' (by simp)]
theorem cut_n (h:Zi) (P N:List Int):((Z1k h P N).drop (Int.toNat (((2+P.length:Nat):Int)))).take (Int.toNat (((Z1k h P N).length:Int))-Int.toNat (((2+P.length:Nat):Int)))=N.map (tot h.f7):=by
 have e:(Z1k h P N).drop (2+P.length)=N.map (tot h.f7):=by
  unfold Z1k;rw[List.drop_left' (by simp;omega)]
 rw[Int.toNat_natCast,Int.toNat_natCast,e,Z4d];exact List.take_of_length_le (by simp)
theorem smp_l0 (hb:Src b) {l:List Z6} (hc:COk l) (hF:∀ s∈l,Fits s.f1) (H:Zi) (hH:∀ s∈l,H.f0=s.f1.f0∧H.f1=s.f1.f1∧H.f2=s.f1.f2) (t:Int×Int×Int) (ht:t.1=(l.length:Int)-1) (z:List Bool) :
  ∀ (suf pre:List Z6) (q p:Option Z6) (was step:List Int) (la gap:Int) (a:Nat) (i:Int),l=pre++suf→i=(pre.length:Int)→Two pre q p→was.length=2+(allI 0 l).length+(allI 1 l).length→step.length=2+(allI 0 l).length+(allI 1 l).length →
  (∀ x,p=some x→was=Z1k x.f1 (allI 0 l) (allI 1 l)∧la=x.f0)→(∀ y x,q=some y→p=some x→step=subR (Z1k x.f1 (allI 0 l) (allI 1 l)) (Z1k y.f1 (allI 0 l) (allI 1 l))∧gap=x.f0-y.f0)→(p=none→la=0) →
  a≤8*b.length→(Z0c b).drop a=body (allI 0 l) (allI 1 l) q p suf++z →
  ∃ a':Nat,Zo.l0 b H (lay (allI 0 l)) (lay (allI 1 l)) t (allI 0 l) (allI 1 l) ((a:Int),0,was,step,la,gap,pre,i)=some (l,(a':Int),0)∧a'≤8*b.length∧(Z0c b).drop a'=z:=by
 obtain⟨iP,iN⟩:=hc.ids hF;have lP:=hc.pos;have lN:=hc.neg;have h32:=hc.len;intro suf
 induction suf with
 | nil =>
  intro pre q p was step la gap a i h1 hi h2 hw hs hp hq hn ha h;rw[List.append_nil] at h1;subst h1;rw[Zo.l0];dsimp only;rw[ht,Z8 (by omega) (by omega),if_neg (by simp;omega),sb,if_neg (by simp)];exact⟨a,rfl,ha,by cases q<;>cases p<;>simpa[body] using h⟩
 | cons x suf ih =>
  intro pre q p was step la gap a i h1 hi h2 hw hs hp hq hn ha h;have hlen:l.length=pre.length+(suf.length+1):=by rw[h1];simp
  have hx:=hc.ok x (by rw[h1];simp);have fx:=hF x (by rw[h1];simp);have hHx:=hH x (by rw[h1];simp);have hrl:=Z4d x.f1 (allI 0 l) (allI 1 l);have hru:=rows_u64 hx.1 fx (allI 0 l) (allI 1 l);have hup:=hc.up;rw[h1] at hup;have h2x:=h2.next x
  have hbkP:bks (allI 0 l) ((allI 0 l).map (tot x.f1.f6))=x.f1.f6:=bks_self iP.1 hx.1.pos.canon (fun y hy=>(allI_mem 0 y.f0 l).2 ⟨x,by rw[h1];simp,List.mem_map.2 ⟨y,hy,rfl⟩⟩);have hbkN:bks (allI 1 l) ((allI 1 l).map (tot x.f1.f7))=x.f1.f7:=bks_self iN.1 hx.1.neg.canon (fun y hy=>(allI_mem 1 y.f0 l).2 ⟨x,by rw[h1];simp,List.mem_map.2 ⟨y,hy,rfl⟩⟩);have hB1:=Zfa (Z96 iP.sm (by omega)) (by omega) (c:=(allI 0 l).map (tot x.f1.f6)) (by simp);have hB2:=Zfa (Z96 iN.sm (by omega)) (by omega) (c:=(allI 1 l).map (tot x.f1.f7)) (by simp);rw[hbkP] at hB1;rw[hbkN] at hB2;have hsum:i64.wrap (u64.wrap x.f1.f5)=x.f1.f5:=by
   have:=fx.sum.1;have:=fx.sum.2;simp only[Z6a,Z71];omega
  have w2:i64.wrap ((2:Int)+((allI 0 l).length:Int))=((2+(allI 0 l).length:Nat):Int):=by rw[Z8 (by omega) (by omega)];omega
  have fin:∀ (a1:Nat) (st:List Int) (gp:Int),st.length=2+(allI 0 l).length+(allI 1 l).length→a1≤8*b.length→(∀ y x',p=some y→some x=some x'→st=subR (Z1k x'.f1 (allI 0 l) (allI 1 l)) (Z1k y.f1 (allI 0 l) (allI 1 l))∧gp=x'.f0-y.f0)→(Z0c b).drop a1=body (allI 0 l) (allI 1 l) p (some x) suf++z →
    ∃ a':Nat,((at? (Z1k x.f1 (allI 0 l) (allI 1 l)) 0)>>=fun b3364=>(at? (Z1k x.f1 (allI 0 l) (allI 1 l)) 1)>>=fun b3367=>(chk (0≤(2:Int)∧(2:Int)≤(i64.wrap ((2:Int)+((allI 0 l).length:Int)))∧(i64.wrap ((2:Int)+((allI 0 l).length:Int)))≤((Z1k x.f1 (allI 0 l) (allI 1 l)).length:Int)))>>=fun _=>(Z1g.f (lay (allI 0 l)) (((Z1k x.f1 (allI 0 l) (allI 1 l)).drop (Int.toNat (2:Int))).take (Int.toNat (i64.wrap ((2:Int)+((allI 0 l).length:Int)))-Int.toNat (2:Int))))>>=fun t3377=>(chk (0≤(i64.wrap ((2:Int)+((allI 0 l).length:Int)))∧(i64.wrap ((2:Int)+((allI 0 l).length:Int)))≤((Z1k x.f1 (allI 0 l) (allI 1 l)).length:Int)∧((Z1k x.f1 (allI 0 l) (allI 1 l)).length:Int)≤((Z1k x.f1 (allI 0 l) (allI 1 l)).length:Int)))>>=fun _=>(Z1g.f (lay (allI 1 l)) (((Z1k x.f1 (allI 0 l) (allI 1 l)).drop (Int.toNat (i64.wrap ((2:Int)+((allI 0 l).length:Int))))).take (Int.toNat ((Z1k x.f1 (allI 0 l) (allI 1 l)).length:Int)-Int.toNat (i64.wrap ((2:Int)+((allI 0 l).length:Int))))))>>=fun t3380=>(Z3l.f (⟨H.f0,H.f1,H.f2,b3364,H.f4,i64.wrap (b3367),t3377,t3380⟩:Zi) t3377 t3380)>>=fun t3386=>(chk ((pre.length+[(⟨x.f0,(t3386.1)⟩:Z6)].length)*104≤140737488355328))>>=fun _=>Zo.l0 b H (lay (allI 0 l)) (lay (allI 1 l)) t (allI 0 l) (allI 1 l) ((a1:Int),0,Z1k x.f1 (allI 0 l) (allI 1 l),st,x.f0,gp,pre++[(⟨x.f0,(t3386.1)⟩:Z6)],i64.wrap (i+(1:Int))))=some (l,(a':Int),0)∧a'≤8*b.length∧(Z0c b).drop a'=z:=by
   intro a1 st gp hst ha1 hsg hd;have A0:at? (Z1k x.f1 (allI 0 l) (allI 1 l)) 0=some x.f1.f3:=rfl;have A1:at? (Z1k x.f1 (allI 0 l) (allI 1 l)) 1=some (u64.wrap x.f1.f5):=rfl;rw[A0,sb,A1,sb,w2,chkB (by rw[hrl];omega),cut_p,hB1,sb,chkB (by rw[hrl];omega),cut_n,hB2,sb,hsum];rw[make_id hx.1 fx (g:=⟨H.f0,H.f1,H.f2,x.f1.f3,H.f4,x.f1.f5,x.f1.f6,x.f1.f7⟩) hHx.1 hHx.2.1 hHx.2.2 rfl rfl,sb,chkB (by simp;omega),Z8 (n:=i+1) (by omega) (by omega)];exact ih (pre++[x]) p (some x) _ st x.f0 gp a1 (i+1) (by simp[h1]) (by simp;omega) h2x hrl hst (fun y hy=>by cases hy;exact⟨rfl,rfl⟩) hsg (fun hy=>by cases hy) ha1 hd
  rw[Zo.l0];dsimp only;rw[ht,Z8 (n:=1+((l.length:Int)-1)) (by omega) (by omega),if_pos (by simp;omega),err_eq,sb,sb,if_pos (by simp)];rcases h2 with ⟨rfl,rfl,rfl⟩ | ⟨y,rfl,rfl,rfl⟩ | ⟨P0,y,w,rfl,rfl,rfl⟩
  ·have hi0:i=0:=by simpa using hi
   subst hi0;rw[body,List.append_assoc,List.append_assoc] at h;have c:=Z3r hb (n:=x.f0.toNat) (m:=1099511627776) (by omega) (by omega) ha h;have l1:=congrArg List.length h;simp only[List.length_drop,Z1b,List.length_append] at l1;rw[Int.toNat_of_nonneg hx.2.1] at c;rw[if_pos (by simp),show Zb.f b (a:Int) 0 1099511627776=_ from c,sb,sb];dsimp only;obtain⟨a1,e1,g1,g2⟩:=s1_0 hb H (lay (allI 0 l)) (lay (allI 1 l)) t (allI 0 l) (allI 1 l) (by omega) (by omega) la [] x.f0 step (body (allI 0 l) (allI 1 l) none (some x) suf++z) (Z1k x.f1 (allI 0 l) (allI 1 l)) [] was (a+(cnt2 x.f0.toNat).length) 0 (by simpa using hrl) (by omega) rfl hru (by omega) (by rw[← List.drop_drop,h,List.drop_left]);rw[List.nil_append,List.nil_append] at e1;rw[e1,sb];exact fin a1 step _ hs g1 (fun y x' hy=>by cases hy) g2
  ·have hi1:i=1:=by simpa using hi
   subst hi1;obtain⟨rfl,rfl⟩:=hp y rfl;have hy:=hc.ok y (by rw[h1];simp);have hyx:y.f0<x.f0:=(List.pairwise_append.1 hup).2.2 y (by simp) x (by simp);have hyl:=Z4d y.f1 (allI 0 l) (allI 1 l);rw[body,List.append_assoc,List.append_assoc] at h;have c:=Z3r hb (n:=(x.f0-y.f0-1).toNat) (m:=1099511627776) (by omega) (by omega) ha h;have l1:=congrArg List.length h;simp only[List.length_drop,Z1b,List.length_append] at l1;have e0:i64.wrap (i64.wrap (y.f0+1)+((x.f0-y.f0-1).toNat:Int))=x.f0:=by
    rw[Z8 (n:=y.f0+1) (by omega) (by omega),Z8 (by omega) (by omega)];omega
   rw[if_neg (by simp),if_pos (by simp),show Zb.f b (a:Int) 0 1099511627776=_ from c,sb];dsimp only;rw[sb];dsimp only;rw[sb];dsimp only;rw[e0];obtain⟨a1,e1,g1,g2⟩:=s1_1 hb H (lay (allI 0 l)) (lay (allI 1 l)) t (allI 0 l) (allI 1 l) (by omega) (by omega) y.f0 [y] x.f0 (body (allI 0 l) (allI 1 l) (some y) (some x) suf++z) (Z1k x.f1 (allI 0 l) (allI 1 l)) [] (Z1k y.f1 (allI 0 l) (allI 1 l)) step [] (a+(cnt2 (x.f0-y.f0-1).toNat).length) 0 (by simpa using hrl) (by omega) (by omega) rfl rfl hru (by omega) (by rw[← List.drop_drop,h,List.drop_left]);rw[List.nil_append,List.nil_append,List.nil_append,List.nil_append] at e1;rw[e1,sb];dsimp only;rw[Z8 (n:=x.f0-y.f0) (by omega) (by omega)];exact fin a1 _ _ (by rw[Z9y (by omega)];exact hrl) g1 (fun y' x' hy hx=>by cases hy;cases hx;exact⟨rfl,rfl⟩) g2
  ·have hi2:2≤i:=by rw[hi];simp;omega
   obtain⟨rfl,rfl⟩:=hp w rfl;obtain⟨rfl,rfl⟩:=hq y w rfl rfl;have hw':=hc.ok w (by rw[h1];simp);have hy:=hc.ok y (by rw[h1];simp);have hwx:w.f0<x.f0:=(List.pairwise_append.1 hup).2.2 w (by simp) x (by simp);have hwl:=Z4d w.f1 (allI 0 l) (allI 1 l);have hyl:=Z4d y.f1 (allI 0 l) (allI 1 l);rw[body,List.append_assoc,List.append_assoc] at h;have c:=Ze6 hb (x:=x.f0-2*w.f0+y.f0) (by omega) ha h;have l1:=congrArg List.length h;simp only[List.length_drop,Z1b,List.length_append] at l1;have e0:i64.wrap (i64.wrap (w.f0+(w.f0-y.f0))+(x.f0-2*w.f0+y.f0))=x.f0:=by
    rw[Z8 (n:=w.f0+(w.f0-y.f0)) (by omega) (by omega),Z8 (by omega) (by omega)];omega
   rw[if_neg (by simp;omega),if_neg (by simp;omega),c,sb];dsimp only;rw[sb];dsimp only;rw[sb];dsimp only;rw[e0];obtain⟨a1,e1,g1,g2⟩:=s1_2 hb H (lay (allI 0 l)) (lay (allI 1 l)) t (allI 0 l) (allI 1 l) (by omega) (by omega) w.f0 (P0++[y,w]) i x.f0 hi2 (body (allI 0 l) (allI 1 l) (some w) (some x) suf++z) (Z1k x.f1 (allI 0 l) (allI 1 l)) [] (Z1k w.f1 (allI 0 l) (allI 1 l)) (subR (Z1k w.f1 (allI 0 l) (allI 1 l)) (Z1k y.f1 (allI 0 l) (allI 1 l))) [] (a+(intB (x.f0-2*w.f0+y.f0)).length) 0 (by simpa using hrl) (by omega) (by omega) rfl rfl hru (by omega) (by rw[← List.drop_drop,h,List.drop_left]);rw[List.nil_append,List.nil_append,List.nil_append,List.nil_append] at e1;rw[e1,sb];dsimp only;rw[Z8 (n:=x.f0-w.f0) (by omega) (by omega)];exact fin a1 _ _ (by rw[Z9y (by omega)];exact hrl) g1 (fun y' x' hy hx=>by cases hy;cases hx;exact⟨rfl,rfl⟩) g2
end Go.Proofs.YtpoihfcehejgfaaGreat.PvGS1
namespace Go.Proofs.YtpoihfcehejgfaaGreat.PvGS1
open Go Go.Pv Go.Pv.GS Go.IntKind
theorem end_l0 {b:List Int} (hb:Src b):∀ (f a:Nat),a+f=8*b.length→(Z0c b).drop a=List.replicate f false→∃ a':Int,Zy.l0 b (a:Int) 0=some (a',0):=by
 intro f;have hl:=hb.len
 induction f with
 | zero =>
  intro a ha h;unfold Zy.l0 Z0m.f;rw[if_pos (by simp),sb,Z8 (n:=(8:Int)*(b.length:Int)) (by omega) (by omega),Z8 (by omega) (by omega),sb,if_neg (by simp;omega)];exact⟨_,rfl⟩
 | succ f ih =>
  intro a ha h;have hx:(Z0c b)[a]? = some false:=by
   have:=congrArg (fun l=>l[0]?) h;simpa[List.replicate_succ] using this
  have hn:(Z0c b).drop (a+1)=List.replicate f false:=by
   have:=congrArg List.tail h;rw[List.tail_drop,List.replicate_succ,List.tail_cons] at this;exact this
  unfold Zy.l0 Z0m.f;rw[if_pos (by simp),sb,Z8 (n:=(8:Int)*(b.length:Int)) (by omega) (by omega),Z8 (by omega) (by omega),sb,if_pos (by simp;omega),Zdu hb hx,sb];dsimp only;rw[if_neg (by simp),sb];exact ih (a+1) (by omega) hn
theorem end_ok {b:List Int} (hb:Src b) {a f:Nat} (hf:f<8) (ha:a≤8*b.length) (h:(Z0c b).drop a=List.replicate f false):∃ a':Int,Zy.f b (a:Int) 0=some (0,a',0):=by
 have hl:=hb.len;have l1:=congrArg List.length h;rw[List.length_drop,Z1b,List.length_replicate] at l1;obtain⟨a',e⟩:=end_l0 hb f a (by omega) h;unfold Zy.f Z0m.f;rw[if_pos (by simp),sb,Z8 (n:=(8:Int)*(b.length:Int)) (by omega) (by omega),Z8 (by omega) (by omega),sb,if_neg (by simp;omega),sb,e,sb];exact⟨a',rfl⟩
theorem end_long {b:List Int} (hb:Src b) {a:Nat} (h:a+8≤8*b.length):Zy.f b (a:Int) 0=some (6,(a:Int),6):=by
 have hl:=hb.len;unfold Zy.f Z0m.f;rw[if_pos (by simp),sb,Z8 (n:=(8:Int)*(b.length:Int)) (by omega) (by omega),Z8 (by omega) (by omega),sb,if_pos (by simp;omega),rfail0,sb,sb,Zy.l0,if_neg (by simp),sb,if_neg (by simp),sb]
theorem eqloop {α:Type} [DecidableEq α] (a b:List α) (hl:a.length=b.length) (ha:a.length<1000000000000) (ne:α→α→Bool) (hne:∀ x y,ne x y = !decide (x=y)) (F:Int→Option (Bool ⊕ Unit)) (hF:∀ i,F i=if(decide (i<(a.length:Int)))=true then((at? a i)>>=fun x=>(at? b i)>>=fun y=>if ne x y=true then(some (.inl false)) else F (i64.wrap (i+(1:Int)))) else(some (.inr ()))) :
  ∀ (sa pa sb' pb:List α) (i:Int),a=pa++sa→b=pb++sb'→pa.length=pb.length→i=(pa.length:Int)→F i=some (if sa=sb' then .inr () else .inl false):=by
 intro sa
 induction sa with
 | nil =>
  intro pa sb' pb i h1 h2 h3 hi;have e:sb'=[]:=by
   have l1:=congrArg List.length h1;have l2:=congrArg List.length h2;simp only[List.length_append,List.length_nil] at l1 l2;exact List.length_eq_zero_iff.1 (by omega)
  rw[hF,if_neg (by rw[h1];simp[hi]),e,if_pos rfl]
 | cons x sa ih =>
  intro pa sb' pb i h1 h2 h3 hi;have l1:=congrArg List.length h1;have l2:=congrArg List.length h2;simp only[List.length_append,List.length_cons] at l1 l2;cases sb' with
  | nil=>simp only[List.length_nil] at l2;omega
  | cons y sb' =>
   rw[hF,if_pos (by simp;omega),Z03 h1 hi,sb,Z03 h2 (by omega),sb,hne,Z8 (by omega) (by omega)];by_cases c:x=y
   ·subst c
    rw[if_neg (by simp),ih (pa++[x]) sb' (pb++[x]) (i+1) (by simp[h1]) (by simp[h2]) (by simp[h3]) (by simp;omega)];by_cases c2:sa=sb'
    ·rw[if_pos c2,if_pos (by rw[c2])]
    ·rw[if_neg c2,if_neg (by simp[c2])]
   ·rw[if_pos (by simp[c]),if_neg (by simp[c])]
theorem bkt_ne (x y:Z0):(!((x.f0==y.f0)&&((x.f1==y.f1)&&true))) = !decide (x=y):=by
 obtain⟨a,b⟩:=x;obtain⟨c,d⟩:=y;by_cases h1:a=c<;>by_cases h2:b=d<;>simp[h1,h2]
theorem rsame_eq (a b:List Z0) (ha:a.length<1000000000000):Z3j.f a b=some (decide (a=b)):=by
 unfold Z3j.f;by_cases hl:a.length=b.length
 ·have L:=eqloop a b hl ha (fun x y => !((x.f0==y.f0)&&((x.f1==y.f1)&&true))) bkt_ne (       Z3j.l0 a b) (fun i=>by rw[       Z3j.l0]) a [] b [] 0 rfl rfl rfl rfl
  rw[if_neg (by simp;omega),L,sb];by_cases c:a=b
  ·rw[if_pos c,decide_eq_true c]
  ·rw[if_neg c,decide_eq_false c]
 ·rw[if_pos (by simp;omega),decide_eq_false (fun h=>hl (by rw[h]))]
theorem rSame_eq (a b:Zi) (h6:a.f6.length<1000000000000) (h7:a.f7.length<1000000000000):Z7k.f a b=some (decide (a=b)):=by
 unfold Z7k.f;rw[rsame_eq _ _ h6,rsame_eq _ _ h7];obtain⟨a0,a1,a2,a3,a4,a5,a6,a7⟩:=a;obtain⟨b0,b1,b2,b3,b4,b5,b6,b7⟩:=b;simp only[sb];by_cases c0:a0=b0
 case neg=>rw[if_neg (by simpa using c0),sb,decide_eq_false (by simp[c0])]
 by_cases c1:a1=b1
 case neg=>rw[if_pos (by simpa using c0),if_neg (by simpa using c1),sb,decide_eq_false (by simp[c1])]
 by_cases c2:a2=b2
 case neg=>rw[if_pos (by simpa using c0),if_pos (by simpa using c1),if_neg (by simpa using c2),sb,decide_eq_false (by simp[c2])]
 by_cases c3:a3=b3
 case neg=>rw[if_pos (by simpa using c0),if_pos (by simpa using c1),if_pos (by simpa using c2),if_neg (by simpa using c3),sb,decide_eq_false (by simp[c3])]
 by_cases c4:a4=b4
 case neg=>rw[if_pos (by simpa using c0),if_pos (by simpa using c1),if_pos (by simpa using c2),if_pos (by simpa using c3),if_neg (by simpa using c4),sb,decide_eq_false (by simp[c4])]
 by_cases c5:a5=b5
 case neg=>rw[if_pos (by simpa using c0),if_pos (by simpa using c1),if_pos (by simpa using c2),if_pos (by simpa using c3),if_pos (by simpa using c4),if_neg (by simpa using c5),sb,decide_eq_false (by simp[c5])]
 rw[if_pos (by simpa using c0),if_pos (by simpa using c1),if_pos (by simpa using c2),if_pos (by simpa using c3),if_pos (by simpa using c4),if_pos (by simpa using c5)];by_cases c6:a6=b6
 case neg=>rw[if_neg (by simpa using c6),sb,decide_eq_false (by simp[c6])]
 by_cases c7:a7=b7
 case neg=>rw[if_pos (by simpa using c6),decide_eq_false c7,sb,decide_eq_false (by simp[c7])]
 rw[if_pos (by simpa using c6),decide_eq_true c7,sb,decide_eq_true (by simp[c0,c1,c2,c3,c4,c5,c6,c7])]
theorem smp_l0' (a b:List Z6) (hl:a.length=b.length) (ha:a.length<1000000000000) (hs:∀ s∈a,s.f1.f6.length<1000000000000∧s.f1.f7.length<1000000000000) :
  ∀ (sa pa sb' pb:List Z6) (i:Int),a=pa++sa→b=pb++sb'→pa.length=pb.length→i=(pa.length:Int)→Z43.l0 a b i=some (if sa=sb' then .inr () else .inl false):=by
 intro sa
 induction sa with
 | nil =>
  intro pa sb' pb i h1 h2 h3 hi;have e:sb'=[]:=by
   have l1:=congrArg List.length h1;have l2:=congrArg List.length h2;simp only[List.length_append,List.length_nil] at l1 l2;exact List.length_eq_zero_iff.1 (by omega)
  rw[Z43.l0,if_neg (by rw[h1];simp[hi]),e,if_pos rfl]
 | cons x sa ih =>
  intro pa sb' pb i h1 h2 h3 hi;have l1:=congrArg List.length h1;have l2:=congrArg List.length h2;simp only[List.length_append,List.length_cons] at l1 l2;have hx:=hs x (by rw[h1];simp);cases sb' with
  | nil=>simp only[List.length_nil] at l2;omega
  | cons y sb' =>
   rw[Z43.l0,if_pos (by simp;omega),Z03 h1 hi,sb,Z03 h2 (by omega),sb,rSame_eq _ _ hx.1 hx.2,sb,Z8 (by omega) (by omega)];have e:((if(x.f0 != y.f0)=true then(some true) else(some (!decide (x.f1=y.f1)))):Option Bool)=some (!decide (x=y)):=by
    obtain⟨a,b⟩:=x;obtain⟨c,d⟩:=y;by_cases h1:a=c<;>by_cases h2:b=d<;>simp[h1,h2]
   rw[e,sb];by_cases c:x=y
   ·subst c
    rw[if_neg (by simp),ih (pa++[x]) sb' (pb++[x]) (i+1) (by simp[h1]) (by simp[h2]) (by simp[h3]) (by simp;omega)];by_cases c2:sa=sb'
    ·rw[if_pos c2,if_pos (by rw[c2])]
    ·rw[if_neg c2,if_neg (by simp[c2])]
   ·rw[if_pos (by simp[c]),if_neg (by simp[c])]
theorem same9_eq (a b:List Z6) (ha:a.length<1000000000000) (hs:∀ s∈a,s.f1.f6.length<1000000000000∧s.f1.f7.length<1000000000000):Z43.f a b=some (decide (a=b)):=by
 unfold Z43.f;by_cases hl:a.length=b.length
 ·rw[if_neg (by simp;omega),smp_l0' a b hl ha hs a [] b [] 0 rfl rfl rfl rfl,sb]
  by_cases c:a=b
  ·rw[if_pos c,decide_eq_true c]
  ·rw[if_neg c,decide_eq_false c]
 ·rw[if_pos (by simp;omega),decide_eq_false (fun h=>hl (by rw[h]))]
theorem byte_ne (x y:Int):(x != y) = !decide (x=y):=by
 by_cases h:x=y<;>simp[h]
theorem eqbytes (a b:List Int) (ha:a.length<1000000000000):Z0q.f a b=some (decide (a=b)):=by
 unfold Z0q.f;by_cases hl:a.length=b.length
 ·have L:=eqloop a b hl ha (fun x y=>x != y) byte_ne (                Z0q.l0 a b) (fun i=>by rw[                Z0q.l0]) a [] b [] 0 rfl rfl rfl rfl
  rw[if_neg (by simp;omega),L,sb];by_cases c:a=b
  ·rw[if_pos c,decide_eq_true c]
  ·rw[if_neg c,decide_eq_false c]
 ·rw[if_pos (by simp;omega),decide_eq_false (fun h=>hl (by rw[h]))]
variable {b:List Int}
structure HOk (h:Zi):Prop where
 fits:Fits h
 pos:h.f6.length≤512
 neg:h.f7.length≤512
theorem HOk.zero:HOk (⟨0,0,0,0,0,0,[],[]⟩:Zi):=⟨⟨by decide,by decide,by decide,by decide,by decide,by decide,by simp,by simp⟩,by simp,by simp⟩
theorem get_fwd (hb:Src b) {a k:Nat} {s z:List Bool} (hk:k≤64) (hs:s.length=k) (ha:a≤8*b.length) (h:(Z0c b).drop a=s++z):Zm.f b (a:Int) 0 (k:Int)=some (((val s:Nat):Int),((a+k:Nat):Int),0):=by
 have l1:=congrArg List.length h;simp only[List.length_drop,Z1b,List.length_append] at l1;rcases get_spec hb hk ha with ⟨_,h2⟩ | ⟨h1,_⟩
 ·rw[h2,h,List.take_left' hs]
 ·omega
theorem dec_fwd (hb:Src b) {l:List Z6} (hc:COk l) (hne:l≠[]) (hk:∀ s∈l,HOk s.f1) (h0:Z1p.f l=some 0) (z:List Bool) (h:Z0c b=Z77 l++z) :
  (8≤z.length→Z3n.f b=some ([],6))∧(∀ f,f<8→z=List.replicate f false→Z3n.f b=some (l,0)):=by
 have hF:∀ s∈l,Fits s.f1:=fun s hs=>(hk s hs).fits
 obtain⟨iP,iN⟩:=hc.ids hF;have lP:=hc.pos;have lN:=hc.neg;have h32:=hc.len;have hbl:=hb.len;obtain⟨s,r,hl⟩:∃ s r,l=s::r:=by
  cases l with
  | nil=>exact absurd rfl hne
  | cons s r=>exact⟨s,r,rfl⟩
 have hs:=hc.ok s (by rw[hl];simp);have fs:=hF s (by rw[hl];simp);have hsch:=hs.1.schema;have hs1:=hsch.1;have hs2:=hsch.2;have hz:=hs.1.zero;have hkd:=hs.1.kind;have hcb:Z77 l=[s.f1.f0==1]++(nb (s.f1.f1+4).toNat 4++(intB s.f1.f2++(lyB (lay (allI 0 l))++(lyB (lay (allI 1 l))++(cnt2 (l.length-1)++body (allI 0 l) (allI 1 l) none none l))))):=by rw[hl];rfl
 have d0:Z0c b=[s.f1.f0==1]++(nb (s.f1.f1+4).toNat 4++(intB s.f1.f2++(lyB (lay (allI 0 l))++(lyB (lay (allI 1 l))++(cnt2 (l.length-1)++(body (allI 0 l) (allI 1 l) none none l++z)))))):=by
  rw[h,hcb];simp
 have lb:=congrArg List.length d0;simp only[Z1b,List.length_append,Z4v,List.length_singleton] at lb;have x0:(Z0c b)[0]? = some (s.f1.f0==1):=by rw[d0];rfl
 have E1:=Zdu hb x0;have d1:(Z0c b).drop 1=nb (s.f1.f1+4).toNat 4++(intB s.f1.f2++(lyB (lay (allI 0 l))++(lyB (lay (allI 1 l))++(cnt2 (l.length-1)++(body (allI 0 l) (allI 1 l) none none l++z))))):=by rw[d0];rfl
 have E2:=get_fwd hb (k:=4) (by omega) (Z4v _ _) (by omega) d1;rw[val_nb,Nat.mod_eq_of_lt (by omega)] at E2;have d2:(Z0c b).drop (1+4)=intB s.f1.f2++(lyB (lay (allI 0 l))++(lyB (lay (allI 1 l))++(cnt2 (l.length-1)++(body (allI 0 l) (allI 1 l) none none l++z)))):=by rw[← List.drop_drop,d1,List.drop_left' (Z4v _ _)]
 have E3:=Ze6 hb (x:=s.f1.f2) (by omega) (by omega) d2;have d3:(Z0c b).drop (1+4+(intB s.f1.f2).length)=lyB (lay (allI 0 l))++(lyB (lay (allI 1 l))++(cnt2 (l.length-1)++(body (allI 0 l) (allI 1 l) none none l++z))):=by rw[← List.drop_drop,d2,List.drop_left]
 obtain⟨a4,E4,g4,d4⟩:=tk_fwd hb iP lP (by omega) _ d3;obtain⟨a5,E5,g5,d5⟩:=tk_fwd hb iN lN g4 _ d4;have E6:=Z3r hb (n:=l.length-1) (m:=31) (by omega) (by omega) g5 d5;have l5:=congrArg List.length d5;simp only[List.length_drop,Z1b,List.length_append] at l5;have d6:(Z0c b).drop (a5+(cnt2 (l.length-1)).length)=body (allI 0 l) (allI 1 l) none none l++z:=by rw[← List.drop_drop,d5,List.drop_left]
 have hll:1≤l.length:=by rw[hl];simp
 have hK:((if(s.f1.f0==1)=true then(some 1) else(some 0)):Option (Int))=some s.f1.f0:=by
  rcases hkd with e | e<;>rw[e]<;>rfl
 have hsc:i64.wrap ((i64.wrap (((s.f1.f1+4).toNat:Nat):Int))+(-4))=s.f1.f1:=by
  rw[Z8 (n:=(((s.f1.f1+4).toNat:Nat):Int)) (by omega) (by omega),Z8 (by omega) (by omega)];omega
 have hat:((if(decide (s.f1.f2<(-524288)))=true then(some true) else(some (decide (s.f1.f2>(262144:Int))))):Option (Bool))=some false:=by
  rw[if_neg (by simp;omega)];simp;omega
 obtain⟨a7,E7,g7,d7⟩:=smp_l0 hb hc hF (⟨s.f1.f0,s.f1.f1,s.f1.f2,0,0,0,[],[]⟩:Zi) (fun x hx=>hc.head s (by rw[hl];simp) x hx) (((l.length-1:Nat):Int),((a5+(cnt2 (l.length-1)).length:Nat):Int),0) (by dsimp only;omega) z l [] none none (List.replicate (Int.toNat ((2+(allI 0 l).length+(allI 1 l).length:Nat):Int)) 0) (List.replicate (Int.toNat ((2+(allI 0 l).length+(allI 1 l).length:Nat):Int)) 0) 0 0 (a5+(cnt2 (l.length-1)).length) 0 rfl rfl (.inl ⟨rfl,rfl,rfl⟩) (by rw[List.length_replicate,Int.toNat_natCast]) (by rw[List.length_replicate,Int.toNat_natCast]) (fun x hx=>by cases hx) (fun y x hy=>by cases hy) (fun _=>rfl) (by omega) d6;have ES:Zo.f b (a5:Int) 0 (⟨s.f1.f0,s.f1.f1,s.f1.f2,0,0,0,[],[]⟩:Zi) (lay (allI 0 l)) (lay (allI 1 l))=some (l,(a7:Int),0):=by
  unfold Zo.f;rw[show Zb.f b (a5:Int) 0 31=_ from E6,sb,Z96 iP.sm (by omega),sb,Z96 iN.sm (by omega),sb,Zal (by omega) (by omega),chkB (by omega)];dsimp only;rw[E7,sb]
 have l7:=congrArg List.length d7;rw[List.length_drop,Z1b] at l7;have pre:Z3n.f b=((Zy.f b (a7:Int) 0)>>=fun t3478=>if(t3478.1 != (0:Int))=true then(some ([],6)) else((Z02.f l)>>=fun t3483=>((if(t3483.2 != (0:Int))=true then(some true) else((Z0q.f t3483.1 b)>>=fun t3521=>some (!t3521))):Option (Bool))>>=fun x3523=>if x3523=true then(some ([],6)) else(some (l,0)))):=by
  unfold Z3n.f Z5e.f;rw[sb,show Z08.f b 0 0=_ from E1,sb];dsimp only;rw[hK,sb,show Zm.f b ((0+1:Nat):Int) 0 4=_ from E2,sb];dsimp only;rw[E3,sb];dsimp only;rw[hat,sb,if_neg (by simp),E4,sb];dsimp only;rw[E5,sb];dsimp only;rw[hsc,ES,sb]
 constructor
 ·intro h8
  rw[pre,end_long hb (by omega),sb,if_pos (by simp)]
 ·intro f hf hzf
  rw[hzf] at d7;obtain⟨a',E⟩:=end_ok hb hf g7 d7;obtain⟨y,f',EY,hY⟩:=enc_eq hc hne hF h0;have hY2:Laid b f (Z77 l):=⟨hb.byte,hf,by rw[h,hzf]⟩
  have:=hY.unique hY2;subst this;rw[pre,E,sb,if_neg (by simp),EY,sb,if_neg (by simp),eqbytes y y (by omega),sb,sb,if_neg (by simp)]
end Go.Proofs.YtpoihfcehejgfaaGreat.PvGS1
namespace Go.Proofs.YtpoihfcehejgfaaGreat.PvGS1
open Go Go.Pv Go.Pv.GS Go.IntKind
def by8 (l:List Int):List Bool:=l.flatMap fun n=>nb n.toNat 8
theorem by8_len (l:List Int):(by8 l).length=8*l.length:=by
 induction l with
 | nil=>rfl
 | cons x l ih=>simp only[by8,List.flatMap_cons,List.length_append,Z4v,List.length_cons] at ih ⊢;omega
def Z73 (t:ByteArray):List Bool:=cnt2 t.size++by8 (Z2d t)
theorem Z66 (t:ByteArray):(Z2d t).length=t.size:=by simp only[Z2d,List.length_map,Array.length_toList];rfl
theorem Zaw (t:ByteArray):∀ n∈Z2d t,0≤n∧n<256:=by
 intro n hn;obtain⟨c,_,rfl⟩:=List.mem_map.1 hn;have:=c.toNat_lt;omega
theorem bytesL_bt {t:ByteArray} {i:Nat} {x:Int} (h:(Z2d t)[i]? = some x):bt t (i:Int)=x:=by
 unfold Z2d at h;rw[List.getElem?_map,Array.getElem?_toList] at h;unfold bt;rw[Int.toNat_natCast];cases e:t.data[i]? with
 | none=>rw[e] at h;simp at h
 | some c=>rw[e] at h;simpa using h
theorem strOf_bytesL (t:ByteArray):Z7a (Z2d t)=t:=by
 rw[strOf_eq];have:toB (Z2d t)=t.data.toList:=by
  unfold toB Z2d;rw[List.map_map]
  conv=>rhs;rw[← List.map_id t.data.toList]
  apply List.map_congr_left;intro c _;simp
 rw[this]
theorem Zcy {x:List Int} (h:∀ n∈x,0≤n∧n<256):Z2d (Z7a x)=x:=by
 rw[strOf_eq];unfold Z2d toB;simp only[List.map_map]
 conv=>rhs;rw[← List.map_id x]
 apply List.map_congr_left;intro n hn;have:=h n hn;simp;omega
theorem text_l0 (t:ByteArray) (ht:t.size≤2000000):∀ (suf pre:List Int) (b:List Int) (f:Nat) (s:List Bool) (i:Int),Z2d t=pre++suf→i=(pre.length:Int)→s.length+8*suf.length<800000000000→Laid b f s →
  ∃ (b':List Int) (f':Nat),Z17.l0 t b (f:Int) i=some (b',(f':Int))∧Laid b' f' (s++by8 suf):=by
 intro suf
 induction suf with
 | nil =>
  intro pre b f s i h1 hi _ hL;have:=Z66 t;rw[h1] at this;refine⟨b,f,?_,by simpa[by8] using hL⟩;rw[Z17.l0,if_neg (by simp at this;simp;omega)]
 | cons x suf ih =>
  intro pre b f s i h1 hi hs hL;have hlen:=Z66 t;rw[h1] at hlen;simp only[List.length_append,List.length_cons] at hlen hs;have hx:=Zaw t x (by rw[h1];simp);have hb:bt t i=x:=by rw[hi];exact bytesL_bt (by rw[h1];simp)
  obtain⟨b1,f1,e1,h2⟩:=wput hL (by omega) (n:=x) (by omega) (by omega) (k:=8) (by omega);rw[Z17.l0,if_pos (by simp;omega),chkB (by omega),hb,Z2l (by omega) (by omega),show(8:Int)=((8:Nat):Int) from rfl,e1,sb,Z8 (n:=i+1) (by omega) (by omega)];obtain⟨b2,f2,e2,h3⟩:=ih (pre++[x]) b1 f1 _ (i+1) (by simp[h1]) (by simp;omega) (by rw[List.length_append,Z4v];omega) h2;refine⟨b2,f2,e2,?_⟩;simpa[by8] using h3
theorem text_eq {b:List Int} {f:Nat} {s:List Bool} (h:Laid b f s) (t:ByteArray) (ht:t.size≤2000000) (hl:s.length<700000000000) :
  ∃ (b':List Int) (f':Nat),Z17.f b (f:Int) t=some (b',(f':Int))∧Laid b' f' (s++Z73 t):=by
 unfold Z17.f;obtain⟨b1,f1,e1,h1⟩:=Z6k h (by omega) (n:=(t.size:Int)) (by omega) (by omega);rw[Z2l (by omega) (by omega),e1,sb];rw[Int.toNat_natCast] at h1;have:=Z0l t.size;have hb:=Z66 t;obtain⟨b2,f2,e2,h2⟩:=text_l0 t ht (Z2d t) [] b1 f1 _ 0 rfl rfl (by rw[List.length_append];omega) h1;rw[e2,sb];exact⟨b2,f2,rfl,by rw[Z73,← List.append_assoc];exact h2⟩
theorem u8w {v:Int} (h0:0≤v) (h1:v<256):u8.wrap v=v:=by
 simp only[IntKind.wrap,IntKind.signed,IntKind.bits];simp;omega
theorem rep_set {n i:Nat} (h:i<n) (p:List Int) (hp:p.length=i) (y:Int):(p++List.replicate (n-i) (0:Int)).set (Int.toNat (i:Int)) y=(p++[y])++List.replicate (n-(i+1)) (0:Int):=by
 rw[show n-i=(n-(i+1))+1 from by omega,List.replicate_succ];exact(Z9k p 0 y _ (by omega)).trans (by simp)
variable {b:List Int}
theorem tk_fwd_l0 (hb:Src b) (t:Int×Int×Int) (n:Nat) (hn:n≤200000000000) (ht:t.1=(n:Int)) (z:List Bool):∀ (suf pre:List Int) (a:Nat) (i:Int),pre.length+suf.length=n→i=(pre.length:Int)→(∀ x∈suf,0≤x∧x<256)→a≤8*b.length→(Z0c b).drop a=by8 suf++z →
  Z11.l0 b t (a:Int) 0 (pre++List.replicate (n-pre.length) (0:Int)) i=some (pre++suf,((a+8*suf.length:Nat):Int),0):=by
 intro suf
 induction suf with
 | nil =>
  intro pre a i h1 hi _ _ _;simp only[List.length_nil,Nat.add_zero] at h1;rw[Z11.l0,if_neg (by rw[ht];simp;omega),show n-pre.length=0 from by omega];simp
 | cons x suf ih =>
  intro pre a i h1 hi hx ha hd;simp only[List.length_cons] at h1;have hx0:=hx x (by simp);have hd2:(Z0c b).drop a=nb x.toNat 8++(by8 suf++z):=by rw[hd];simp[by8]
  have hget:=get_fwd hb (k:=8) (by omega) (Z4v x.toNat 8) ha hd2;rw[val_nb,Nat.mod_eq_of_lt (by omega)] at hget;have l1:=congrArg List.length hd2;simp only[List.length_drop,Z1b,List.length_append,Z4v] at l1;have hd3:(Z0c b).drop (a+8)=by8 suf++z:=by
   rw[← List.drop_drop,hd2,List.drop_left' (Z4v ..)]
  rw[Z11.l0,if_pos (by rw[ht];simp;omega),show(8:Int)=((8:Nat):Int) from rfl,hget,sb];rw[show at? (pre++List.replicate (n-pre.length) (0:Int)) i=some 0 from by
   rw[show n-pre.length=(n-(pre.length+1))+1 from by omega,List.replicate_succ];exact Z7b pre 0 _ hi,sb]
  dsimp only;rw[hi,rep_set (by omega) pre rfl,Z8 (n:=(pre.length:Int)+1) (by omega) (by omega)];have hw:u8.wrap ((x.toNat:Nat):Int)=x:=by rw[show((x.toNat:Nat):Int)=x from by omega];exact u8w (by omega) (by omega)
  rw[hw];have:=ih (pre++[x]) (a+8) ((pre.length:Int)+1) (by simp;omega) (by simp) (fun y hy=>hx y (by simp[hy])) (by omega) hd3;simp only[List.length_append,List.length_singleton] at this;rw[this];simp only[List.append_assoc,List.singleton_append,List.length_cons];congr 4;omega
theorem left_ok (a e:Int):Z0m.f b a e=some ():=rfl
end Go.Proofs.YtpoihfcehejgfaaGreat.PvGS1
namespace Go.Proofs.YtpoihfcehejgfaaGreat.PvGS1
open Go Go.Pv Go.Pv.GS Go.IntKind
theorem laid_src {x:List Int} {f:Nat} {l:List Z6} (h:Laid x f (Z77 l)) (hc:COk l) (hk:∀ s∈l,HOk s.f1):Src x∧x.length≤400000:=by
 have h1:=h.len;have h2:=h.lt;have h3:=Zci hc (fun s hs=>(hk s hs).fits);exact⟨⟨h.byte,by omega⟩,by omega⟩
def Z8v (l:List Z6):Prop:=∀ pre s suf,l=pre++s::suf→Z1i.f pre s=some true
theorem fits_nil (s:Z6):Z1i.f [] s=some true:=by unfold Z1i.f;rw[if_pos (by simp)]
theorem Z8v.one (s:Z6):Z8v [s]:=by
 intro pre x suf h;cases pre with
 | nil=>exact fits_nil x
 | cons y r=>simp at h
theorem Z8v.pre {a b:List Z6} (h:Z8v (a++b)):Z8v a:=fun pre s suf e=>h pre s (suf++b) (by rw[e];simp)
theorem Z8v.snoc {a:List Z6} {s:Z6} (h:Z8v a) (hs:Z1i.f a s=some true):Z8v (a++[s]):=by
 intro pre x suf e;rcases List.eq_nil_or_concat suf with rfl | ⟨S,y,rfl⟩
 ·obtain⟨rfl,e2⟩:=List.append_inj' e rfl
  simp at e2;subst e2;exact hs
 ·rw[List.concat_eq_append] at e
  have e3:a++[s]=(pre++x::S)++[y]:=by rw[e];simp
  obtain⟨rfl,_⟩:=List.append_inj' e3 rfl;exact h pre x S rfl
structure SOk (s:Z6):Prop where
 v:Z27 s.f1
 f:Fits s.f1
 t:0≤s.f0∧s.f0≤1099511627776
theorem tst (x:Int):((if(decide (x<(0:Int)))=true then(some true) else(some (decide (x>(1099511627776:Int))))):Option (Bool))=some (!decide (0≤x∧x≤1099511627776)):=by
 by_cases c:x<0
 ·rw[if_pos (by simpa using c),decide_eq_false (by omega)];rfl
 ·rw[if_neg (by simpa using c)]
  by_cases c2:x>1099511627776
  ·rw[decide_eq_true c2,decide_eq_false (by omega)];rfl
  ·rw[decide_eq_false c2,decide_eq_true (by omega)];rfl
theorem check0 {s:Z6} (h:SOk s):Z0f.f s.f1=some 0:=by
 obtain⟨r,e1,e3⟩:=check_any s.f1 h.f;rw[e1,e3.2 h.v]
open Classical in
theorem grow_l0 (l:List Z6) (hl:l.length≤900) (hk:∀ s∈l,SOk s):∀ (suf pre:List Z6) (i:Int),l=pre++suf→i=(pre.length:Int) →
  Z1p.l0 l i=some (if ∀ p s q,suf=p++s::q→Z1i.f (pre++p) s=some true then .inr () else .inl 6):=by
 intro suf
 induction suf with
 | nil =>
  intro pre i h1 hi;rw[Z1p.l0,if_neg (by rw[h1];simp[hi]),if_pos (fun p s q h=>by simp at h)]
 | cons s suf ih =>
  intro pre i h1 hi;have hlen:l.length=pre.length+(suf.length+1):=by rw[h1];simp
  have hs:=hk s (by rw[h1];simp);have hb:¬ ((!decide (0≤s.f0∧s.f0≤1099511627776))=true):=by rw[decide_eq_true hs.t];decide
  obtain⟨r,f1,_⟩:=fits_p pre s (by omega) (fun x hx=>by
   have:x∈l:=by rw[h1];rcases List.mem_append.1 hx with hx | hx;exact List.mem_append_left _ hx;simp at hx;subst hx;simp
   exact⟨(hk x this).v,(hk x this).f⟩) hs.t
  rw[Z1p.l0,if_pos (by simp;omega),Z03 h1 hi,sb,tst,sb,if_neg hb,check0 hs,sb,if_neg (by simp),chkB (by omega),take_pre h1 hi,Z8 (n:=i+1) (by omega) (by omega),f1,sb];cases r with
  | false =>
   rw[if_pos (show(!false)=true from rfl),if_neg];intro h;have:=h [] s suf rfl;rw[List.append_nil,f1] at this;simp at this
  | true =>
   rw[if_neg (show ¬ ((!true)=true) by simp),ih (pre++[s]) (i+1) (by simp[h1]) (by simp;omega)];congr 1;by_cases c:∀ p x q,suf=p++x::q→Z1i.f (pre++[s]++p) x=some true
   ·rw[if_pos c,if_pos]
    intro p x q e;cases p with
    | nil=>simp at e;obtain⟨rfl,rfl⟩:=e;rw[List.append_nil];exact f1
    | cons y p=>simp at e;obtain⟨rfl,rfl⟩:=e;have:=c p x q rfl;simpa using this
   ·rw[if_neg c,if_neg]
    intro h;refine c (fun p x q e => ?_);have:=h (s::p) x q (by rw[e];rfl);simpa using this
open Classical in
theorem grow_chk (l:List Z6) (hl:l.length≤900) (hne:l≠[]) (hk:∀ s∈l,SOk s):Z1p.f l=some (if Z8v l then 0 else 6):=by
 have hn:¬ (((l.length:Int)==0)=true):=by
  have:l.length≠0:=fun h=>hne (List.length_eq_zero_iff.1 h);simp;omega
 unfold Z1p.f;rw[if_neg hn,grow_l0 l hl hk l [] 0 rfl rfl,sb];have e:(∀ p s q,l=p++s::q→Z1i.f ([]++p) s=some true)↔Z8v l:=by simp[Z8v]
 by_cases h:Z8v l
 ·rw[if_pos (e.2 h),if_pos h]
 ·rw[if_neg (fun x=>h (e.1 x)),if_neg h]
structure CutOK (C:List (List Z6)):Prop where
 ne:∀ c∈C,c≠[]∧Z8v c
 gap:∀ i c c',C[i]? = some c→C[i+1]? = some c'→∃ s r,c'=s::r∧Z1i.f c s=some false
theorem flat_len {C:List (List Z6)} (h:∀ c∈C,c≠[]):C.length≤C.flatten.length:=by
 induction C with
 | nil=>simp
 | cons c C ih =>
  have h1:=ih (fun x hx=>h x (by simp[hx]));have h2:=List.length_pos_iff.2 (h c (by simp));simp only[List.flatten_cons,List.length_append,List.length_cons];omega
theorem CutOK.snoc {D:List (List Z6)} {c:List Z6} {s:Z6} (h:CutOK (D++[c])) (hs:Z1i.f c s=some false):CutOK (D++[c]++[[s]]):=by
 refine⟨fun x hx => ?_,fun i x x' h1 h2 => ?_⟩
 ·rcases List.mem_append.1 hx with hx | hx
  ·exact h.ne x hx
  ·simp at hx;subst hx;exact⟨by simp,Z8v.one s⟩
 ·by_cases hi:i+1<(D++[c]).length
  ·rw[List.getElem?_append_left (by omega)] at h1 h2
   exact h.gap i x x' h1 h2
  ·rw[List.getElem?_append_right (by omega)] at h2
   obtain⟨h3,h4⟩:=List.getElem?_eq_some_iff.1 h2;simp only[List.length_singleton] at h3;have e:i=D.length:=by simp at hi h3;omega
   rw[List.getElem?_append_left (by simp;omega),e,List.getElem?_append_right (by omega)] at h1;simp at h1;subst h1;refine⟨s,[],?_,hs⟩;rw[← h4];simp[e]
def Zcn (t:Int):Bool:=decide (0≤t∧t≤1099511627776)
open Classical in
noncomputable def sok (s:Z6):Bool:=Zcn s.f0&&decide (Z27 s.f1)
def aft (p:Option Z6) (s:Z6):Bool:=match p with
 | none=>true
 | some q=>decide (q.f0<s.f0)
noncomputable def good (p:Option Z6) (s:Z6):Bool:=sok s&&aft p s
noncomputable def rise:Option Z6→List Z6→Bool
 | _,[]=>true
 | p,s::l=>good p s&&rise (some s) l
def lst:Option Z6→List Z6→Option Z6
 | p,[]=>p
 | _,s::l=>lst (some s) l
theorem lst_app (a b:List Z6):∀ p,lst p (a++b)=lst (lst p a) b:=by
 induction a with
 | nil=>intro p;rfl
 | cons s a ih=>intro p;exact ih _
theorem Zdb (a:List Z6) (s:Z6) (p:Option Z6):lst p (a++[s])=some s:=by rw[lst_app];rfl
def flow (b:Bool):Bool ⊕ Unit:=match b with
 | true=>.inr ()
 | false=>.inl false
theorem ris_step (s:Z6) (hf:Fits s.f1) {l pre suf:List Z6} {i:Int} (h1:l=pre++s::suf) (hi:i=(pre.length:Int)) (hl:l.length<1000000000000000) :
  ((if(decide (s.f0<(0:Int)))=true then(some true) else(if(decide (s.f0>(1099511627776:Int)))=true then(some true) else((Z0f.f s.f1)>>=fun t508=>if(t508 != (0:Int))=true then(some true) else(if(decide (i>(0:Int)))=true then((at? l (i64.wrap (i-(1:Int))))>>=fun b512=>some (decide (b512.f0≥s.f0))) else(some false))))):Option (Bool))=some (!good (lst none pre) s):=by
 have hlen:l.length=pre.length+(suf.length+1):=by rw[h1];simp
 by_cases t0:s.f0<0
 ·rw[if_pos (decide_eq_true t0)]
  have:Zcn s.f0=false:=decide_eq_false (by omega);simp[good,sok,this]
 rw[if_neg (by simpa using t0)];by_cases t1:s.f0>1099511627776
 ·rw[if_pos (decide_eq_true t1)]
  have:Zcn s.f0=false:=decide_eq_false (by omega);simp[good,sok,this]
 rw[if_neg (by simpa using t1)];have ht:Zcn s.f0=true:=decide_eq_true (by omega);obtain⟨e,e1,e3⟩:=check_any s.f1 hf;rw[e1,sb];by_cases he:e=0
 case neg =>
  rw[if_pos (by simpa using he)];have:¬ Z27 s.f1:=fun h=>he (e3.2 h);simp[good,sok,this]
 rw[if_neg (by simpa using he)];have hv:=e3.1 he;rcases List.eq_nil_or_concat pre with rfl | ⟨Q,q,rfl⟩
 ·rw[if_neg (by simp[hi])]
  simp[good,sok,ht,hv,lst,aft]
 ·rw[List.concat_eq_append] at *
  have hi3:i=(Q.length:Int)+1:=by rw[hi];simp
  simp only[List.length_append,List.length_singleton] at hlen;rw[if_pos (decide_eq_true (by omega)),Z8 (n:=i-1) (by omega) (by omega)];rw[show at? l (i-1)=some q from Z03 (pre:=Q) (suf:=s::suf) (by rw[h1];simp) (by omega),sb,Zdb];simp only[good,sok,ht,hv,aft,Bool.true_and,decide_true];congr 1;by_cases c:q.f0<s.f0
  ·rw[decide_eq_false (by omega),decide_eq_true c];rfl
  ·rw[decide_eq_true (by omega),decide_eq_false c];rfl
theorem ris_l0 (l:List Z6) (hl:l.length<1000000000000000) (hf:∀ s∈l,Fits s.f1):∀ (suf pre:List Z6) (i:Int),l=pre++suf→i=(pre.length:Int)→Z1h.l0 l i=some (flow (rise (lst none pre) suf)):=by
 intro suf
 induction suf with
 | nil=>intro pre i h1 hi;rw[Z1h.l0,if_neg (by rw[h1];simp[hi])];rfl
 | cons s suf ih =>
  intro pre i h1 hi;have hlen:l.length=pre.length+(suf.length+1):=by rw[h1];simp
  have hst:=ris_step s (hf s (by rw[h1];simp)) h1 hi hl;have hr:rise (lst none pre) (s::suf)=(good (lst none pre) s&&rise (some s) suf):=rfl;rw[hr];cases g:good (lst none pre) s with
  | false =>
   rw[g] at hst;rw[Z1h.l0,if_pos (by simp;omega),Z03 h1 hi,sb,hst,sb,if_pos (show(!false)=true from rfl)];rfl
  | true =>
   rw[g] at hst;rw[Z1h.l0,if_pos (by simp;omega),Z03 h1 hi,sb,hst,sb,if_neg (show ¬ (!true)=true by simp),Z8 (n:=i+1) (by omega) (by omega),ih (pre++[s]) (i+1) (by simp[h1]) (by simp;omega),Zdb,Bool.true_and]
theorem ris_eq (l:List Z6) (hl:l.length<1000000000000000) (hf:∀ s∈l,Fits s.f1):Z1h.f l=some (rise none l):=by
 unfold Z1h.f;rw[ris_l0 l hl hf l [] 0 rfl rfl,sb];show(match flow (rise none l) with | .inl rr=>(some rr) | .inr _=>(some true))=some (rise none l);obtain⟨b,hb⟩:∃ b,rise none l=b:=⟨_,rfl⟩
 rw[hb];cases b<;>rfl
theorem rtime (t:Int):Z58.f t=some (Zcn t):=by
 unfold Z58.f Zcn;by_cases h:t≥0
 ·rw[if_pos (decide_eq_true h),sb];congr 1;apply Bool.eq_iff_iff.2;simp;omega
 ·rw[if_neg (by simpa using h),sb];congr 1;rw[decide_eq_false (by omega)]
theorem rris_l0 (l:List Z6) (hl:l.length<1000000000000000) (hf:∀ s∈l,Fits s.f1∧s.f1.f6.length<1000000000000000∧s.f1.f7.length<1000000000000000):∀ (suf pre:List Z6) (i:Int),l=pre++suf→i=(pre.length:Int)→Z2w.l0 l i=some (flow (rise (lst none pre) suf)):=by
 intro suf
 induction suf with
 | nil=>intro pre i h1 hi;rw[Z2w.l0,if_neg (by rw[h1];simp[hi])];rfl
 | cons s suf ih =>
  intro pre i h1 hi;have hlen:l.length=pre.length+(suf.length+1):=by rw[h1];simp
  have hs:=hf s (by rw[h1];simp);have step:((((at? l i)>>=fun b6847=>(Z58.f b6847.f0)>>=fun t6850=>if(!t6850)=true then(some true) else((Z06.f b6847.f1)>>=fun t6853=>if(t6853 != (0:Int))=true then(some true) else(if(decide (i>(0:Int)))=true then((at? l (i64.wrap (i-(1:Int))))>>=fun b6857=>some (decide (b6847.f0≤b6857.f0))) else(some false)))):Option (Bool)))=some (!good (lst none pre) s):=by
   rw[Z03 h1 hi,sb,rtime,sb];cases ht:Zcn s.f0 with
   | false=>rw[if_pos (show(!false)=true from rfl)];simp[good,sok,ht]
   | true =>
    rw[if_neg (by simp)];obtain⟨e,_,e1,e3⟩:=check_same s.f1 hs.1 hs.2.1 hs.2.2;rw[e1,sb];by_cases he:e=0
    case neg =>
     rw[if_pos (by simpa using he)];have:¬ Z27 s.f1:=fun h=>he (e3.2 h);simp[good,sok,this]
    rw[if_neg (by simpa using he)];have hv:=e3.1 he;rcases List.eq_nil_or_concat pre with rfl | ⟨Q,q,rfl⟩
    ·rw[if_neg (by simp[hi])]
     simp[good,sok,ht,hv,lst,aft]
    ·rw[List.concat_eq_append] at *
     have hi3:i=(Q.length:Int)+1:=by rw[hi];simp
     simp only[List.length_append,List.length_singleton] at hlen;rw[if_pos (decide_eq_true (by omega)),Z8 (n:=i-1) (by omega) (by omega)];rw[show at? l (i-1)=some q from Z03 (pre:=Q) (suf:=s::suf) (by rw[h1];simp) (by omega),sb,Zdb];simp only[good,sok,ht,hv,aft,Bool.true_and,decide_true];congr 1;by_cases c:q.f0<s.f0
     ·rw[decide_eq_false (by omega),decide_eq_true c];rfl
     ·rw[decide_eq_true (by omega),decide_eq_false c];rfl
  have hst:=step;have hr:rise (lst none pre) (s::suf)=(good (lst none pre) s&&rise (some s) suf):=rfl;rw[hr];cases g:good (lst none pre) s with
  | false =>
   rw[g] at hst;rw[Z2w.l0,if_pos (by simp;omega),hst,sb,if_pos (show(!false)=true from rfl)];rfl
  | true =>
   rw[g] at hst;rw[Z2w.l0,if_pos (by simp;omega),hst,sb,if_neg (show ¬ (!true)=true by simp),Z8 (n:=i+1) (by omega) (by omega),ih (pre++[s]) (i+1) (by simp[h1]) (by simp;omega),Zdb,Bool.true_and]
theorem rris_eq (l:List Z6) (hl:l.length<1000000000000000) (hf:∀ s∈l,Fits s.f1∧s.f1.f6.length<1000000000000000∧s.f1.f7.length<1000000000000000):Z2w.f l=some (rise none l):=by
 unfold Z2w.f;rw[rris_l0 l hl hf l [] 0 rfl rfl,sb];show(match flow (rise none l) with | .inl rr=>(some rr) | .inr _=>(some true))=some (rise none l);obtain⟨b,hb⟩:∃ b,rise none l=b:=⟨_,rfl⟩
 rw[hb];cases b<;>rfl
theorem sok_inv {s:Z6} (hf:Fits s.f1) (h:sok s=true):SOk s:=by
 unfold sok Zcn at h;simp only[Bool.and_eq_true,decide_eq_true_eq] at h;exact⟨h.2,hf,h.1⟩
theorem SOk.cok {s:Z6} (h:SOk s):COk [s]:=fit_nil s h.v h.t
theorem SOk.hok {s:Z6} (h:SOk s):HOk s.f1:=⟨h.f,h.v.pos.len,h.v.neg.len⟩
def encX (l:List Z6):List Int:=((Z02.f l).getD ([],0)).1
theorem encX_eq {l:List Z6} (hc:COk l) (hne:l≠[]) (hk:∀ s∈l,HOk s.f1) (h0:Z1p.f l=some 0):Z02.f l=some (encX l,0)∧(∃ f,Laid (encX l) f (Z77 l))∧(encX l).length≤400000:=by
 obtain⟨x,f,e,h⟩:=enc_eq hc hne (fun s hs=>(hk s hs).fits) h0;have hx:encX l=x:=by unfold encX;rw[e];rfl
 rw[hx];exact⟨e,⟨f,h⟩,(laid_src h hc hk).2⟩
theorem Z8m {x:List Int} {f:Nat} {s:List Bool} (h:Laid x f s):∀ n∈x,0≤n∧n<256:=fun n hn=>h.byte n hn
variable {b:List Int}
theorem err_ok (a e:Int):Zs.f b a e=some ():=rfl
theorem smp_src {x:List Int} {f:Nat} {l:List Z6} (h:Laid x f (Z77 l)) (hl:x.length≤400000):Src x:=⟨h.byte,by omega⟩
end Go.Proofs.YtpoihfcehejgfaaGreat.PvGS1
namespace Go.Proofs.YtpoihfcehejgfaaGreat.PvGS1
open Go Go.Pv Go.Pv.GS Go.IntKind
structure Chu (c:List Z6):Prop where
 cok:COk c
 ne:c≠[]
 k:∀ s∈c,HOk s.f1
 h0:Z1p.f c=some 0
def Z9u (D:List (List Z6)):List Bool:=D.flatMap fun c=>Z73 (Z7a (encX c))
variable {b:List Int}
end Go.Proofs.YtpoihfcehejgfaaGreat.PvGS1
namespace Go.Proofs.YtpoihfcehejgfaaGreat.PvGS1
open Go Go.Pv Go.Pv.GS Go.IntKind
variable {b:List Int}
theorem left_div {a:Nat} (ha:a≤8*b.length) (hB:b.length<1000000000000):i64.wrap (Int.tdiv (i64.wrap ((i64.wrap ((8:Int)*(b.length:Int)))-(a:Int))) (8:Int))=(((8*b.length-a) / 8:Nat):Int):=by
 have hdiv:(8*(b.length:Int)-(a:Int)).tdiv 8=(((8*b.length-a) / 8:Nat):Int):=by
  rw[show 8*(b.length:Int)-(a:Int)=((8*b.length-a:Nat):Int) from by omega];exact(Int.ofNat_tdiv _ 8).symm
 rw[Z8 (n:=8*(b.length:Int)) (by omega) (by omega),Z8 (n:=8*(b.length:Int)-_) (by omega) (by omega),hdiv,Z8 (by omega) (by omega)]
theorem Zfb (hb:Src b) {t:ByteArray} {a:Nat} {z:List Bool} (ha:a≤8*b.length) (h:(Z0c b).drop a=Z73 t++z) :
  Z11.f b (a:Int) 0=some (t,((a+(Z73 t).length:Nat):Int),0):=by
 have hbl:=Z66 t;have h1:(Z0c b).drop a=cnt2 t.size++(by8 (Z2d t)++z):=by rw[h,Z73,List.append_assoc]
 have hlen:=congrArg List.length h1;simp only[List.length_drop,Z1b,List.length_append,by8_len] at hlen;have h2:(Z0c b).drop (a+(cnt2 t.size).length)=by8 (Z2d t)++z:=by rw[← List.drop_drop,h1,List.drop_left' rfl]
 have hB:=hb.len;unfold Z11.f;rw[left_ok,sb,left_div ha (by omega),Z3r hb (by omega) (by omega) ha h1,sb];dsimp only;rw[chkB (by omega),Int.toNat_natCast];have:=tk_fwd_l0 hb ((t.size:Int),((a+(cnt2 t.size).length:Nat):Int),0) t.size (by omega) rfl z (Z2d t) [] (a+(cnt2 t.size).length) 0 (by simpa using hbl) rfl (Zaw t) (by omega) h2;simp only[List.nil_append,List.length_nil,Nat.sub_zero] at this;rw[this,sb];dsimp only;rw[strOf_bytesL];congr 4;rw[Z73,List.length_append,by8_len];omega
end Go.Proofs.YtpoihfcehejgfaaGreat.PvGS1
namespace Go.Proofs.YtpoihfcehejgfaaGreat.PvGS1
open Go Go.Pv Go.Pv.GS Go.IntKind
def keyB (s:ByteArray):Bool:=match Z0e.f s with
 | some (_,e)=>e==0
 | none=>false
theorem key_iff (s:ByteArray) (hs:s.size≤2000000):keyB s=true↔∃ x,chkC x=0∧L s=keyL x:=by
 unfold keyB;obtain⟨x,e,h,h2⟩:=Zf5 s hs;rw[h];dsimp only;rcases h2 with ⟨rfl,h3,h4⟩ | ⟨rfl,_,h3⟩
 ·simp;exact⟨x,h3,h4⟩
 ·simp;exact h3
theorem rk_l0:∀ (n:Nat) (s:ByteArray) (acc:List ByteArray),s.size≤n→s.size≤2000000→acc.length+s.size≤4000000 →
  (Z2b.l0 s acc=some (.inl false)∧∀ ws:List ByteArray,(∀ w∈ws,w.size<256)→L s≠Z5c ws)∨(∃ ws,Z2b.l0 s acc=some (.inr (acc++ws))∧(∀ w∈ws,w.size<256)∧L s=Z5c ws∧ws.length≤s.size):=by
 intro n
 induction n with
 | zero =>
  intro s acc hn h5 ha;rw[Z2b.l0,if_neg (by rw[decide_eq_true_eq];omega)];have:L s=[]:=List.length_eq_zero_iff.1 (by rw[Z5d];omega);exact .inr ⟨[],by simp,by simp,by rw[this];rfl,by simp⟩
 | succ n ih =>
  intro s acc hn h5 ha;by_cases h0:0<s.size
  case neg =>
   rw[Z2b.l0,if_neg (by rw[decide_eq_true_eq];omega)];have:L s=[]:=List.length_eq_zero_iff.1 (by rw[Z5d];omega);exact .inr ⟨[],by simp,by simp,by rw[this];rfl,by simp⟩
  obtain⟨c,r,hc,hr,hbt⟩:=L_cons_of h0;have hcl:=c.toNat_lt;have hword:∀ ws:List ByteArray,(∀ w∈ws,w.size<256)→L s=Z5c ws→∃ w ws',ws=w::ws'∧w.size=c.toNat∧r=L w++Z5c ws':=fun ws hw e=>by
   cases ws with
   | nil=>rw[hc] at e;simp[Z5c] at e
   | cons w ws' =>
    rw[hc,Z47,word,List.cons_append,List.cons.injEq] at e;refine⟨w,ws',rfl,?_,e.2⟩;have:=hw w (by simp);rw[e.1,UInt8.toNat_ofNat',Nat.mod_eq_of_lt (by omega)]
  rw[Z2b.l0,if_pos (by simp;omega),chkB (by omega),hbt,Z8 (n:=(c.toNat:Int)) (by omega) (by omega),Z8 (n:=(c.toNat:Int)+1) (by omega) (by omega)];by_cases hle:(c.toNat:Int)+1>(s.size:Int)
  ·rw[if_pos (by simpa using hle)]
   refine .inl ⟨rfl,fun ws hw e => ?_⟩;obtain⟨w,ws',_,h1,h2⟩:=hword ws hw e;have:=congrArg List.length h2;rw[List.length_append,Z5d] at this;omega
  ·have e1:Int.toNat ((c.toNat:Int)+1)=1+c.toNat:=by omega
   have l1:L (s.extract (Int.toNat 1) (Int.toNat ((c.toNat:Int)+1)))=r.take c.toNat:=by
    rw[Z8u,e1,hc];simp
   have l2:L (s.extract (Int.toNat ((c.toNat:Int)+1)) (Int.toNat (s.size:Int)))=r.drop c.toNat:=by
    rw[Z8u,e1,hc,Int.toNat_natCast,Nat.add_comm 1 c.toNat,List.drop_succ_cons,List.take_of_length_le (by simp;omega)]
   have s1:(s.extract (Int.toNat 1) (Int.toNat ((c.toNat:Int)+1))).size=c.toNat:=by rw[← Z5d,l1,List.length_take];omega
   have s2:(s.extract (Int.toNat ((c.toNat:Int)+1)) (Int.toNat (s.size:Int))).size=s.size-1-c.toNat:=by rw[← Z5d,l2,List.length_drop];omega
   rw[if_neg (by simpa using hle),chkB (by omega),chkB (by simp;omega),chkB (by omega)];generalize s.extract (Int.toNat 1) (Int.toNat ((c.toNat:Int)+1))=w0 at *;generalize s.extract (Int.toNat ((c.toNat:Int)+1)) (Int.toNat (s.size:Int))=rest at *;rcases ih rest (acc++[w0]) (by omega) (by omega) (by simp;omega) with ⟨g1,g2⟩ | ⟨ws,g1,g2,g3,g4⟩
   ·refine .inl ⟨g1,fun ws hw e => ?_⟩
    obtain⟨w,ws',rfl,h1,h2⟩:=hword ws hw e;refine g2 ws' (fun z hz=>hw z (by simp[hz])) ?_;rw[l2,h2,← h1,← Z5d,List.drop_left]
   ·refine .inr ⟨w0::ws,by rw[g1];simp,fun z hz => ?_,?_,by simp;omega⟩
    ·rcases List.mem_cons.1 hz with rfl | hz
     ·omega
     ·exact g2 z hz
    ·rw[Z47        ,word,← g3,l1,l2,s1,hc]
     have:UInt8.ofNat c.toNat=c:=UInt8.ofNat_toNat;rw[this,List.cons_append,List.take_append_drop]
theorem rk_l1 (ws:List ByteArray) (hl:ws.length≤4000000):∀ (m:Nat) (pre suf:List ByteArray) (o:List Z0d) (i:Int),suf.length=2*m→ws=pre++suf→i=(pre.length:Int)→o.length≤pre.length→Z2b.l1 ws o i=some (o++Z7c suf):=by
 intro m
 induction m with
 | zero =>
  intro pre suf o i hm h1 hi ho;have:suf=[]:=List.length_eq_zero_iff.1 hm;subst this;have hlen:ws.length=pre.length:=by rw[h1];simp
  rw[Z2b.l1,Z8 (n:=i+1) (by omega) (by omega),if_neg (by simp;omega)];simp[Z7c]
 | succ m ih =>
  intro pre suf o i hm h1 hi ho
  match suf,hm with
  | a::b::suf,hm =>
   have hlen:ws.length=pre.length+(suf.length+2):=by rw[h1];simp
   rw[Z2b.l1,Z8 (n:=i+1) (by omega) (by omega),if_pos (by simp;omega),Z03 h1 hi,sb,Z03 (pre:=pre++[a]) (suf:=suf) (x:=b) (by rw[h1];simp) (by simp;omega),sb,chkB (by simp;omega),Z8 (n:=i+2) (by omega) (by omega)];rw[ih (pre++[a,b]) suf _ (i+2) (by simp at hm;omega) (by rw[h1];simp) (by simp;omega) (by simp;omega),Z7c];simp
theorem rkey15 (s:ByteArray) (hs:s.size≤2000000):Z2b.f s=some (keyB s):=by
 have hiff:=key_iff s hs;have flat256:∀ x',chkC x'=0→∀ w∈Z3s x',w.size<256:=fun x' h w hw=>by
  obtain⟨z,hz,hw⟩:=List.mem_flatMap.1 hw;have:=Z91 (Zbk h).2 z hz;simp at hw;rcases hw with rfl | rfl
  ·have:=this.1;omega
  ·have:=this.2;omega
 have no:(¬ ∃ x,chkC x=0∧L s=keyL x)→keyB s=false:=fun h=>by
  cases e:keyB s with
  | false=>rfl
  | true=>exact absurd (hiff.1 e) h
 unfold Z2b.f;rcases rk_l0 s.size s [] (Nat.le_refl _) hs (by simp;omega) with ⟨g1,g2⟩ | ⟨ws,g1,g2,g3,g4⟩
 ·rw[g1,sb]
  dsimp only;rw[no (fun⟨x',h,e⟩=>g2 (Z3s x') (flat256 x' h) (by rw[e,Z6d]))]
 ·rw[g1,sb,List.nil_append]
  dsimp only;have ht:Int.tmod (ws.length:Int) 2=((ws.length % 2:Nat):Int):=by rw[Int.tmod_eq_emod_of_nonneg (by omega)];omega
  have huniq:∀ x',chkC x'=0→L s=keyL x'→ws=Z3s x':=fun x' h e=>Zbr g2 (flat256 x' h) (by rw[← g3,e,Z6d])
  have heven:∀ x':List Z0d,(Z3s x').length % 2=0:=fun x'=>by
   induction x' with
   | nil=>rfl
   | cons z x' ih =>
    have:Z3s (z::x')=z.f0::z.f1::Z3s x':=by simp[Z3s]
    rw[this];simp;omega
  rw[ht];by_cases hodd:ws.length % 2=1
  ·rw[if_pos (by simp;omega),no (fun⟨x',h,e⟩=>by
    have:=huniq x' h e;have h2:=heven x';rw[← this] at h2;omega)]
  ·rw[if_neg (by simp;omega),rk_l1 ws (by omega) (ws.length / 2) [] ws [] 0 (by omega) rfl rfl (by simp),sb,List.nil_append,rcheck,sb]
   by_cases hc:chkC (Z7c ws)=0
   ·rw[hc,hiff.2 ⟨Z7c ws,hc,by rw[g3,Z6d,Zcc ws (by omega)]⟩];rfl
   ·rw[no (fun⟨x',h,e⟩=>by
     have:=huniq x' h e;rw[this,Zc0] at hc;exact hc h)]
    congr 1;simpa using hc
theorem by8_bits (l:List Int):by8 l=Z0c l:=by
 unfold by8 Z0c;congr 1
theorem Z72 (t:ByteArray):(Z73 t).length≤71+8*t.size:=by
 have:=Z0l t.size;rw[Z73,List.length_append,by8_len,Z66];omega
theorem Zce {α:Type} (f:α→List Bool) (k:Nat):∀ (l:List α),(∀ x∈l,(f x).length≤k)→(l.flatMap f).length≤k*l.length:=by
 intro l
 induction l with
 | nil=>simp
 | cons x l ih =>
  intro h;have:=h x (by simp);have:=ih (fun y hy=>h y (by simp[hy]));rw[List.flatMap_cons,List.length_append,List.length_cons,Nat.mul_add];omega
theorem cutB_l0 (l:List Z6) (hl:l.length≤1000000) (hk:∀ s∈l,SOk s):∀ (suf:List Z6) (dn:List (List Z6)) (cu:List Z6) (i:Int),l=dn.flatten++cu++suf→i=((dn.flatten++cu).length:Int) →
  (∀ c∈dn,COk c∧c≠[]∧Z8v c)→COk cu→cu≠[]→Z8v cu →
  ∃ C,Z24.l0 l dn cu i=some C∧Zc.hl l dn cu i=some C∧C.flatten=l∧∀ c∈C,COk c∧c≠[]∧Z8v c:=by
 intro suf
 induction suf with
 | nil =>
  intro dn cu i h1 hi hC h2 h3 h4;refine⟨dn++[cu],?_,?_,by rw[h1];simp,fun c hc => ?_⟩
  ·rw[Z24.l0,if_neg (by rw[h1];simp[hi])]
  ·rw[Zc.hl,if_neg (by rw[h1];simp[hi])]
  ·rcases List.mem_append.1 hc with hc | hc
   ·exact hC c hc
   ·simp at hc;subst hc;exact⟨h2,h3,h4⟩
 | cons s suf ih =>
  intro dn cu i h1 hi hC h2 h3 h4;have hlen:l.length=(dn.flatten++cu).length+(suf.length+1):=by rw[h1,List.length_append];rfl
  have hdn:=flat_len (C:=dn) (fun c hc=>(hC c hc).2.1);have hn:(dn.flatten++cu).length=dn.flatten.length+cu.length:=List.length_append;have hi1:((dn.flatten++cu++[s]).length:Int)=i+1:=by rw[hi,List.length_append];simp
  have hs:=hk s (by rw[h1];simp);have h32:=h2.len;obtain⟨r,f1,f2,f3⟩:=fits_eq cu s (by omega) (fun x hx=>by
   have:x∈l:=by rw[h1];rcases List.mem_append.1 hx with hx | hx;simp[hx];simp at hx;subst hx;simp
   exact⟨(hk x this).v,(hk x this).f⟩) hs.t
  have hi2:i<2000000:=by omega
  rw[Z24.l0,if_pos (decide_eq_true (by omega)),Z03 h1 hi,sb,chkB (by omega),f1,sb,Z8 (n:=i+1) (by omega) (by omega)];cases r with
  | false =>
   rw[if_pos (show(!false)=true from rfl),Zc.hl,if_pos (decide_eq_true (by omega)),chkB (by omega),Z03 h1 hi,sb,f2,sb,Z8 (n:=i+1) (by omega) (by omega),if_neg (by simp)];exact ih (dn++[cu]) [s] (i+1) (by rw[h1];simp) (by rw[← hi1];simp) (fun c hc=>by
    rcases List.mem_append.1 hc with hc | hc
    ·exact hC c hc
    ·simp at hc;subst hc;exact⟨h2,h3,h4⟩) hs.cok (by simp) (Z8v.one s)
  | true =>
   rw[if_neg (show ¬ ((!true)=true) by simp),chkB (by omega),Zc.hl,if_pos (decide_eq_true (by omega)),chkB (by omega),Z03 h1 hi,sb,f2,sb,Z8 (n:=i+1) (by omega) (by omega),if_pos rfl,chkB (by omega)];exact ih dn (cu++[s]) (i+1) (by rw[h1];simp) (by rw[← hi1];simp) hC (f3 rfl h2) (by simp) (h4.snoc f1)
theorem cutB (l:List Z6) (hl:l.length≤1000000) (hk:∀ s∈l,SOk s):∃ C,Z24.f l=some C∧Zc.h l=some C∧C.flatten=l∧(∀ c∈C,Chu c)∧C.length≤l.length:=by
 suffices h:∃ C,Z24.f l=some C∧Zc.h l=some C∧C.flatten=l∧∀ c∈C,COk c∧c≠[]∧Z8v c by
  obtain⟨C,e1,e2,e3,e4⟩:=h;refine⟨C,e1,e2,e3,fun c hc => ?_,by have:=flat_len (C:=C) (fun c hc=>(e4 c hc).2.1);rw[e3] at this;exact this⟩;obtain⟨c1,c2,c3⟩:=e4 c hc;have hm:∀ s∈c,SOk s:=fun s hs=>hk s (by rw[← e3];exact List.mem_flatten.2 ⟨c,hc,hs⟩)
  have h32:=c1.len;refine⟨c1,c2,fun s hs=>(hm s hs).hok,?_⟩;rw[grow_chk c (by omega) c2 hm,if_pos c3]
 unfold Z24.f Zc.h;cases l with
 | nil=>exact⟨[],rfl,rfl,rfl,by simp⟩
 | cons s suf =>
  rw[if_pos (by simp),if_pos (by simp),show at? (s::suf) 0=some s from rfl,sb,sb,Z8 (by omega) (by omega)];exact cutB_l0 (s::suf) hl hk suf [] [s] (0+1) (by simp) (by simp) (by simp) (hk s (by simp)).cok (by simp) (Z8v.one s)
def cutX (l:List Z6):List (List Z6):=(Z24.f l).getD []
def smpsB (l:List Z6):List Bool:=cnt2 (cutX l).length++Z9u (cutX l)
structure CutX (l:List Z6) (C:List (List Z6)):Prop where
 p:Z24.f l=some C
 d:Zc.h l=some C
 x:cutX l=C
 flat:C.flatten=l
 ok:∀ c∈C,Chu c
 len:C.length≤l.length
theorem cutX_ok (l:List Z6) (hl:l.length≤1000000) (hk:∀ s∈l,SOk s):∃ C,CutX l C:=by
 obtain⟨C,e1,e2,e3,e4,e5⟩:=cutB l hl hk;exact⟨C,e1,e2,by unfold cutX;rw[e1];rfl,e3,e4,e5⟩
theorem Chu.enc {c:List Z6} (h:Chu c):Z02.f c=some (encX c,0)∧(∃ f,Laid (encX c) f (Z77 c))∧(Z7a (encX c)).size=(encX c).length∧(encX c).length≤400000:=by
 obtain⟨e1,⟨f,e2⟩,e3⟩:=encX_eq h.cok h.ne h.k h.h0;exact⟨e1,⟨f,e2⟩,by rw[← Z66,Zcy (Z8m e2)],e3⟩
theorem Chu.txt {c:List Z6} (h:Chu c):(Z73 (Z7a (encX c))).length≤3300000:=by
 obtain⟨_,_,e3,e4⟩:=h.enc;have:=Z72 (Z7a (encX c));omega
theorem chusB_len:∀ (C:List (List Z6)),(∀ c∈C,Chu c)→(Z9u C).length≤3300000*C.length:=by
 intro C h;exact Zce (fun c=>Z73 (Z7a (encX c))) 3300000 C (fun c hc=>(h c hc).txt)
theorem smpsB_len {l:List Z6} {C:List (List Z6)} (h:CutX l C):(smpsB l).length≤71+3300000*l.length:=by
 have h1:=chusB_len C h.ok;have h2:=Z0l C.length;have h3:=h.len;have:3300000*C.length≤3300000*l.length:=Nat.mul_le_mul_left _ h3;rw[smpsB,h.x,List.length_append];omega
structure RowB (r:Zh):Prop where
 k:r.f0.size≤2000000
 n:r.f1.length≤100000000
 f:∀ s∈r.f1,Fits s.f1∧s.f1.f6.length<1000000000000000∧s.f1.f7.length<1000000000000000
theorem rise_up:∀ (l:List Z6) (p:Option Z6),rise p l=true→l.Pairwise (fun a b=>a.f0<b.f0)∧∀ q,p=some q→∀ x∈l,q.f0<x.f0
 | [],p,_=>⟨List.Pairwise.nil,by simp⟩
 | s::l,p,h=>by
  simp only[rise,Bool.and_eq_true,good] at h;obtain⟨⟨h1,h2⟩,h3⟩:=h;obtain⟨g1,g2⟩:=rise_up l (some s) h3;refine⟨List.pairwise_cons.2 ⟨g2 s rfl,g1⟩,fun q hq x hx => ?_⟩;subst hq;have h4:q.f0<s.f0:=by simpa[aft] using h2
  rcases List.mem_cons.1 hx with rfl | hx
  ·exact h4
  ·have:=g2 s rfl x hx;omega
theorem rise_ok:∀ (l:List Z6) (p:Option Z6),rise p l=true→∀ s∈l,sok s=true
 | [],_,_,_,h=>by simp at h
 | s::l,p,h,x,hx=>by
  simp only[rise,Bool.and_eq_true,good] at h;rcases List.mem_cons.1 hx with rfl | hx
  ·exact h.1.1
  ·exact rise_ok l _ h.2 x hx
theorem ends_all {a z:Z6} {m:List Z6} {lo hi:Int} (h:rise none (a::m)=true) (hz:(a::m).getLast? = some z):((a::m).all fun s=>decide (lo≤s.f0∧s.f0<hi))=decide (lo≤a.f0∧z.f0<hi):=by
 obtain⟨h1,_⟩:=rise_up _ _ h;obtain⟨ha,hm⟩:=List.pairwise_cons.1 h1;have hz2:∀ x∈a::m,x.f0≤z.f0:=by
  obtain⟨pre,e⟩:=List.getLast?_eq_some_iff.1 hz;rw[e] at h1 ⊢;intro x hx;rcases List.mem_append.1 hx with hx | hx
  ·have:=(List.pairwise_append.1 h1).2.2 x hx z (by simp);omega
  ·rw[List.mem_singleton.1 hx];omega
 have hzm:z∈a::m:=List.mem_of_getLast? hz;rw[Bool.eq_iff_iff];simp only[List.all_eq_true,decide_eq_true_eq];constructor
 ·intro h;exact⟨(h a (by simp)).1,(h z hzm).2⟩
 ·rintro⟨g1,g2⟩ x hx
  have:=hz2 x hx;rcases List.mem_cons.1 hx with rfl | hx
  ·omega
  ·have:=ha x hx;omega
def behK (p:Option ByteArray) (k:ByteArray):Bool:=match p with
 | none=>true
 | some q=>bl q k
noncomputable def rowC (lo hi:Int) (p:Option ByteArray) (r:Zh):Int :=
 if(keyB r.f0&&behK p r.f0)=true then(if(!r.f1.isEmpty&&rise none r.f1&&r.f1.all fun s=>decide (lo≤s.f0∧s.f0<hi))=true then 0 else 22) else 26
noncomputable def Zd2 (lo hi:Int):Option ByteArray→List Zh→Int
 | _,[]=>0
 | p,r::l=>if rowC lo hi p r=0 then Zd2 lo hi (some r.f0) l else rowC lo hi p r
def out16 (e:Int):Int ⊕ Unit:=if e=0 then .inr () else .inl e
def Zbf (pre:List Zh):Option ByteArray:=pre.getLast?.map (·.f0)
theorem Zc9 (pre:List Zh) (r:Zh):Zbf (pre++[r])=some r.f0:=by simp[Zbf]
theorem le_not_lt16 (a b:ByteArray):(Op.bytesLess a.toList b.toList||a.toList==b.toList) = !bl b a:=by
 rw[eqB];by_cases h:a=b
 ·subst h;simp[Z68]
 ·cases h1:bl a b with
  | true =>
   have h2:bl b a=false:=Zdf h1;simp[bl] at h1;simp[h1,h2]
  | false =>
   have h2:bl b a=true:=by
    cases h3:bl b a with
    | true=>rfl
    | false=>exact absurd (bl_tri' h1 h3) h
   simp[bl] at h1;simp[h1,h2,h]
theorem keyStep {l pre suf:List Zh} {r:Zh} {i:Int} (h1:l=pre++r::suf) (hi:i=(pre.length:Int)) (hl:l.length<1000000000) :
  ((if(decide (i>(0:Int)))=true then((at? l (i64.wrap (i-(1:Int))))>>=fun b2389=>some (!Op.bytesLess b2389.f0.toList r.f0.toList)) else(some false)):Option Bool)=some (!behK (Zbf pre) r.f0):=by
 rcases List.eq_nil_or_concat pre with rfl | ⟨Q,q,rfl⟩
 ·rw[if_neg (by simp[hi])];rfl
 ·rw[List.concat_eq_append] at *
  have hi3:i=(Q.length:Int)+1:=by rw[hi];simp
  have hlen:l.length=Q.length+1+(suf.length+1):=by rw[h1];simp;omega
  rw[if_pos (decide_eq_true (by omega)),Z8 (n:=i-1) (by omega) (by omega),Zc9];rw[show at? l (i-1)=some q from Z03 (pre:=Q) (suf:=r::suf) (by rw[h1];simp) (by omega),sb];rfl
theorem keyStep' {l pre suf:List Zh} {r:Zh} {i:Int} (h1:l=pre++r::suf) (hi:i=(pre.length:Int)) (hl:l.length<1000000000) :
  ((if(decide (i>(0:Int)))=true then((at? l (i64.wrap (i-(1:Int))))>>=fun b2956=>some (Op.bytesLess r.f0.toList b2956.f0.toList||r.f0.toList==b2956.f0.toList)) else(some false)):Option Bool)=some (!behK (Zbf pre) r.f0):=by
 rw[← keyStep h1 hi hl];congr 1;congr 1;funext x;rw[le_not_lt16]
theorem from16 {s:ByteArray} (hs:s.size≤2000000):∃ x e,Z0e.f s=some (x,e)∧keyB s=(e==0)∧(e=0→chkC x=0∧L s=keyL x):=by
 obtain⟨x,e,h,h2⟩:=Zf5 s hs;refine⟨x,e,h,by unfold keyB;rw[h],fun he => ?_⟩;rcases h2 with ⟨_,h3,h4⟩ | ⟨rfl,_,_⟩
 ·exact⟨h3,h4⟩
 ·simp at he
theorem chk16_l0 (b:Z2) (hl:b.f1.length<1000000000) (hb:∀ r∈b.f1,RowB r):∀ (suf pre:List Zh) (i:Int),b.f1=pre++suf→i=(pre.length:Int)→Z1d.l0 b i=some (out16 (Zd2 b.f0.f0 b.f0.f1 (Zbf pre) suf)):=by
 intro suf
 induction suf with
 | nil=>intro pre i h1 hi;rw[Z1d.l0,if_neg (by rw[h1];simp[hi])];rfl
 | cons r suf ih =>
  intro pre i h1 hi;have hlen:b.f1.length=pre.length+(suf.length+1):=by rw[h1];simp
  have hr:=hb r (by rw[h1];simp);obtain⟨x,e,f1,f2,f3⟩:=from16 hr.k;rw[Z1d.l0,if_pos (by simp;omega),Z03 h1 hi,sb,f1,sb,keyStep h1 hi hl];have hk:((if((x,e).2 != (0:Int))=true then(some true) else some (!behK (Zbf pre) r.f0)):Option Bool)=some (!(keyB r.f0&&behK (Zbf pre) r.f0)):=by
   rw[f2];by_cases he:e=0
   ·simp[he]
   ·simp[he]
  rw[hk,sb,Zd2];unfold rowC;cases hk2:(keyB r.f0&&behK (Zbf pre) r.f0) with
  | false=>rw[if_pos (by rfl),if_neg (by simp),if_neg (by decide)];rfl
  | true =>
   rw[if_neg (by simp),if_pos rfl];have hs:(((if((r.f1.length:Int)==(0:Int))=true then(some true) else((Z1h.f r.f1)>>=fun t2406=>if(!t2406)=true then(some true) else((at? r.f1 0)>>=fun b2409=>if(decide (b2409.f0<b.f0.f0))=true then(some true) else((at? r.f1 (i64.wrap ((r.f1.length:Int)-(1:Int))))>>=fun b2413=>some (decide (b2413.f0≥b.f0.f1)))))):Option (Bool))=some (!(!r.f1.isEmpty&&rise none r.f1&&r.f1.all fun s=>decide (b.f0.f0≤s.f0∧s.f0<b.f0.f1)))):=by
    rw[ris_eq r.f1 (by have:=hr.n;omega) (fun s hs=>(hr.f s hs).1)]
    match hm:r.f1,hr.n with
    | [],_=>rfl
    | a::m,hn =>
     rw[if_neg (by simp;omega),sb];cases hri:rise none (a::m) with
     | false=>rfl
     | true =>
      obtain⟨z,hz⟩:∃ z,(a::m).getLast? = some z:=⟨_,List.getLast?_eq_some_getLast (by simp)⟩
      rw[if_neg (by simp),show at? (a::m) 0=some a from rfl,sb,Z8 (by simp only[List.length_cons] at *;omega) (by simp only[List.length_cons] at *;omega)];have hzl:at? (a::m) (((a::m).length:Int)-1)=some z:=by
       rw[List.getLast?_eq_getElem?] at hz;exact Z69 (k:=(a::m).length-1) (by simp) hz
      rw[hzl,sb,ends_all hri hz];by_cases c1:a.f0<b.f0.f0
      ·rw[if_pos (decide_eq_true c1),decide_eq_false (by omega)];rfl
      ·rw[if_neg (by simpa using c1)]
       by_cases c2:z.f0≥b.f0.f1
       ·rw[decide_eq_true c2,decide_eq_false (by omega)];rfl
       ·rw[decide_eq_false c2,decide_eq_true (by omega)];rfl
   rw[hs,sb];cases hs2:(!r.f1.isEmpty&&rise none r.f1&&r.f1.all fun s=>decide (b.f0.f0≤s.f0∧s.f0<b.f0.f1)) with
   | false=>rw[if_pos (by rfl),if_neg (by simp),if_neg (by decide)];rfl
   | true=>rw[if_neg (by simp),if_pos rfl,if_pos rfl,Z8 (by omega) (by omega),ih (pre++[r]) (i+1) (by simp[h1]) (by simp;omega),Zc9]
noncomputable def blkC (b:Z2):Int:=if Z79 b.f0 then(if b.f1.length=0∨64<b.f1.length then 9 else Zd2 b.f0.f0 b.f0.f1 none b.f1) else 4
theorem check16 (b:Z2) (hl:b.f1.length<1000000000) (hb:∀ r∈b.f1,RowB r):Z1d.f b=some (blkC b):=by
 unfold Z1d.f blkC;rw[right16,sb];by_cases h:Z79 b.f0
 ·rw[decide_eq_true h,if_neg (by simp),if_pos h]
  have h2:((if((b.f1.length:Int)==(0:Int))=true then(some true) else(some (decide ((b.f1.length:Int)>(64:Int))))):Option (Bool))=some (decide (b.f1.length=0∨64<b.f1.length)):=by
   by_cases c:b.f1.length=0
   ·rw[if_pos (by simp[c]),decide_eq_true (.inl c)]
   ·rw[if_neg (by simp;intro h;simp[h] at c)]
    congr 1;by_cases c2:64<b.f1.length
    ·rw[decide_eq_true (by omega),decide_eq_true (.inr c2)]
    ·rw[decide_eq_false (by omega),decide_eq_false (by omega)]
  rw[h2,sb];by_cases c:b.f1.length=0∨64<b.f1.length
  ·rw[if_pos (decide_eq_true c),if_pos c]
  ·rw[if_neg (by simpa using c),if_neg c,chk16_l0 b hl hb b.f1 [] 0 rfl rfl,sb,show Zbf   []=none from rfl]
   unfold out16;by_cases e:Zd2 b.f0.f0 b.f0.f1 none b.f1=0
   ·rw[if_pos e,e]
   ·rw[if_neg e]
 ·rw[decide_eq_false h,if_pos (show(!false)=true from rfl),if_neg h]
theorem rwidth_l0 (k:Int):∀ (n:Nat) (x i:Int),i+n=4→0≤i→0≤x→x≤64*4 ^ i.toNat→Z10.l0 k x i=some (x*4 ^ (min k 4-i).toNat):=by
 intro n
 induction n with
 | zero =>
  intro x i h1 h0 hx hx2;obtain rfl:i=4:=by omega
  rw[Z10.l0];have:((if(decide ((4:Int)<k))=true then(some (decide ((4:Int)<(4:Int)))) else(some false)):Option Bool)=some false:=by split<;>rfl
  rw[this,sb,if_neg (by simp),show(min k 4-4).toNat=0 by omega];simp
 | succ n ih =>
  intro x i h1 h0 hx hx2;have hp:(4:Int) ^ i.toNat≤64:=by
   have:i.toNat≤3:=by omega
   obtain h | h | h | h:i.toNat=0∨i.toNat=1∨i.toNat=2∨i.toNat=3:=by omega
   all_goals rw[h];decide
  rw[Z10.l0];by_cases c:i<k
  ·rw[if_pos (decide_eq_true c),sb,if_pos (by simp;omega),Z8     (by omega) (by omega),Z8     (by omega) (by omega)]
   rw[ih (x*4) (i+1) (by omega) (by omega) (by omega) (by rw[show(i+1).toNat=i.toNat+1 by omega,Int.pow_succ];omega),show(min k 4-i).toNat=(min k 4-(i+1)).toNat+1 by omega,Int.pow_succ,Int.mul_assoc,Int.mul_comm 4]
  ·rw[if_neg (by simpa using c),sb,if_neg (by simp),show(min k 4-i).toNat=0 by omega];simp
theorem rwidth (k:Int):Z10.f k=some (64*4 ^ (min k 4).toNat):=by
 unfold Z10.f;rw[rwidth_l0 k 4 64 0 (by omega) (by omega) (by omega) (by decide),sb,Int.sub_zero]
theorem Zdm {k:Int} (h:0≤k) (h4:k≤4):Z10.f k=some (wide k):=by
 rw[rwidth];obtain rfl | rfl | rfl | rfl | rfl:k=0∨k=1∨k=2∨k=3∨k=4:=by omega
 all_goals decide
def Z6b (b:Z07):Z2:=⟨⟨b.f0,b.f1,b.f2⟩,b.f3⟩
theorem rright16 (b:Z07):((if(decide (b.f2<(0:Int)))=true then(some true) else(if(decide (b.f2>(4:Int)))=true then(some true) else(if(decide (b.f0<(0:Int)))=true then(some true) else(if(decide (b.f0>(1099511627776:Int)))=true then(some true) else((Z10.f b.f2)>>=fun t2461=>(chk (t2461≠0))>>=fun _=>if((Int.tmod b.f0 t2461) != (0:Int))=true then(some true) else((Z10.f b.f2)>>=fun t2465=>some (b.f1 != (i64.wrap (b.f0+t2465))))))))):Option (Bool))=some (!decide (Z79 ⟨b.f0,b.f1,b.f2⟩)):=by
 obtain⟨lo,hi,k,rows⟩:=b;dsimp only;by_cases h1:k<0
 ·rw[if_pos (decide_eq_true h1),decide_eq_false (fun h=>by have:=h.1;dsimp only at this;omega)];rfl
 rw[if_neg (by simpa using h1)];by_cases h2:k>4
 ·rw[if_pos (decide_eq_true h2),decide_eq_false (fun h=>by have:=h.2.1;dsimp only at this;omega)];rfl
 rw[if_neg (by simpa using h2)];by_cases h3:lo<0
 ·rw[if_pos (decide_eq_true h3),decide_eq_false (fun h=>by have:=h.2.2.1;dsimp only at this;omega)];rfl
 rw[if_neg (by simpa using h3)];by_cases h4:lo>1099511627776
 ·rw[if_pos (decide_eq_true h4),decide_eq_false (fun h=>by have:=h.2.2.2.1;dsimp only at this;omega)];rfl
 have hw:=Zb2 k;rw[if_neg (by simpa using h4),Zdm (by omega) (by omega),sb,chkB (by omega),Int.tmod_eq_emod_of_nonneg (by omega)];by_cases h5:lo % wide k=0
 ·rw[if_neg (by simp[h5]),sb,Z8     (by omega) (by omega)]
  congr 1;by_cases h6:hi=lo+wide k
  ·rw[show decide (Z79 ⟨lo,hi,k⟩)=true from decide_eq_true ⟨by dsimp only;omega,by dsimp only;omega,by dsimp only;omega,by dsimp only;omega,h5,h6⟩];simp[h6]
  ·rw[decide_eq_false (fun h:Z79 ⟨lo,hi,k⟩=>h6 h.2.2.2.2.2)];simp[h6]
 ·rw[if_pos (by simpa using h5),decide_eq_false (fun h:Z79 ⟨lo,hi,k⟩=>h5 h.2.2.2.2.1)];rfl
theorem rchk16_l1 (b:Z07) (r:Zh) (j:Int) (hl:r.f1.length<1000000000):∀ (suf pre:List Z6) (i:Int),r.f1=pre++suf→i=(pre.length:Int) →
  Z1y.l1 b r j i=some (if(suf.all fun s=>decide (b.f0≤s.f0∧s.f0<b.f1))=true then .inr () else .inl 22):=by
 intro suf
 induction suf with
 | nil=>intro pre i h1 hi;rw[Z1y.l1,if_neg (by rw[h1];simp[hi])];rfl
 | cons s suf ih =>
  intro pre i h1 hi;have hlen:r.f1.length=pre.length+(suf.length+1):=by rw[h1];simp
  rw[Z1y.l1,if_pos (by simp;omega),Z03 h1 hi,sb];have:((if(decide (s.f0<b.f0))=true then(some true) else(some (decide (s.f0≥b.f1)))):Option Bool)=some (!decide (b.f0≤s.f0∧s.f0<b.f1)):=by
   by_cases c1:s.f0<b.f0
   ·rw[if_pos (decide_eq_true c1),decide_eq_false (by omega)];rfl
   ·rw[if_neg (by simpa using c1)]
    by_cases c2:s.f0≥b.f1
    ·rw[decide_eq_true c2,decide_eq_false (by omega)];rfl
    ·rw[decide_eq_false c2,decide_eq_true (by omega)];rfl
  rw[this,sb,List.all_cons];cases h:decide (b.f0≤s.f0∧s.f0<b.f1) with
  | false=>rw[if_pos (show(!false)=true from rfl)];rfl
  | true=>rw[if_neg (by simp),Z8 (by omega) (by omega),ih (pre++[s]) (i+1) (by simp[h1]) (by simp;omega),Bool.true_and]
theorem rchk16_l0 (b:Z07) (hl:b.f3.length<1000000000) (hb:∀ r∈b.f3,RowB r):∀ (suf pre:List Zh) (i:Int),b.f3=pre++suf→i=(pre.length:Int)→Z1y.l0 b i=some (out16 (Zd2 b.f0 b.f1 (Zbf pre) suf)):=by
 intro suf
 induction suf with
 | nil=>intro pre i h1 hi;rw[Z1y.l0,if_neg (by rw[h1];simp[hi])];rfl
 | cons r suf ih =>
  intro pre i h1 hi;have hlen:b.f3.length=pre.length+(suf.length+1):=by rw[h1];simp
  have hr:=hb r (by rw[h1];simp);rw[Z1y.l0,if_pos (by simp;omega),Z03 h1 hi,sb,rkey15 r.f0 hr.k,sb,keyStep' h1 hi hl];have hk:((if(!keyB r.f0)=true then(some true) else some (!behK (Zbf pre) r.f0)):Option Bool)=some (!(keyB r.f0&&behK (Zbf pre) r.f0)):=by
   cases keyB r.f0<;>rfl
  rw[hk,sb,Zd2];unfold rowC;cases hk2:(keyB r.f0&&behK (Zbf pre) r.f0) with
  | false=>rw[if_pos (by rfl),if_neg (by simp),if_neg (by decide)];rfl
  | true =>
   rw[if_neg (by simp),if_pos rfl,rris_eq r.f1 (by have:=hr.n;omega) hr.f];have hs:((if((r.f1.length:Int)==(0:Int))=true then(some true) else((some (rise none r.f1))>>=fun t2965=>some (!t2965))):Option Bool)=some (!(!r.f1.isEmpty&&rise none r.f1)):=by
    match r.f1 with
    | []=>rfl
    | a::m=>rw[if_neg (by simp;omega),sb];rfl
   rw[hs,sb];cases hs2:(!r.f1.isEmpty&&rise none r.f1) with
   | false=>rw[if_pos (by rfl),Bool.false_and,if_neg (by simp),if_neg (by decide)];rfl
   | true =>
    rw[if_neg (by simp),rchk16_l1 b r i (by have:=hr.n;omega) r.f1 [] 0 rfl rfl,sb,Bool.true_and];cases hs3:(r.f1.all fun s=>decide (b.f0≤s.f0∧s.f0<b.f1)) with
    | false=>rw[if_neg (by simp),if_neg (by simp),if_neg (by decide)];rfl
    | true=>rw[if_pos rfl,if_pos rfl,if_pos rfl];dsimp only;rw[Z8 (by omega) (by omega),ih (pre++[r]) (i+1) (by simp[h1]) (by simp;omega),Zc9]
theorem rcheck16 (b:Z07) (hl:b.f3.length<1000000000) (hb:∀ r∈b.f3,RowB r):Z1y.f b=some (blkC (Z6b b)):=by
 unfold Z1y.f blkC;rw[rright16,sb];show _=some (if Z79 ⟨b.f0,b.f1,b.f2⟩ then(if b.f3.length=0∨64<b.f3.length then 9 else Zd2 b.f0 b.f1 none b.f3) else 4);by_cases h:Z79 ⟨b.f0,b.f1,b.f2⟩
 ·rw[decide_eq_true h,if_neg (by simp),if_pos h]
  have h2:((if(decide ((b.f3.length:Int)<(1:Int)))=true then(some true) else(some (decide ((b.f3.length:Int)>(64:Int))))):Option (Bool))=some (decide (b.f3.length=0∨64<b.f3.length)):=by
   by_cases c:b.f3.length=0
   ·rw[if_pos (by simp[c]),decide_eq_true (.inl c)]
   ·rw[if_neg (by simp;omega)]
    congr 1;by_cases c2:64<b.f3.length
    ·rw[decide_eq_true (by omega),decide_eq_true (.inr c2)]
    ·rw[decide_eq_false (by omega),decide_eq_false (by omega)]
  rw[h2,sb];by_cases c:b.f3.length=0∨64<b.f3.length
  ·rw[if_pos (decide_eq_true c),if_pos c]
  ·rw[if_neg (by simpa using c),if_neg c,rchk16_l0 b hl hb b.f3 [] 0 rfl rfl,sb,show Zbf   []=none from rfl]
   unfold out16;by_cases e:Zd2 b.f0 b.f1 none b.f3=0
   ·rw[if_pos e,e]
   ·rw[if_neg e]
 ·rw[decide_eq_false h,if_pos (show(!false)=true from rfl),if_neg h]
structure RowOK (lo hi:Int) (r:Zh):Prop where
 k:keyB r.f0=true
 ne:r.f1≠[]
 up:rise none r.f1=true
 at_:∀ s∈r.f1,lo≤s.f0∧s.f0<hi
structure BlkOK (b:Z2):Prop where
 m:Z79 b.f0
 ne:b.f1≠[]
 len:b.f1.length≤64
 rows:∀ r∈b.f1,RowOK b.f0.f0 b.f0.f1 r
 up:b.f1.Pairwise fun r q=>bl r.f0 q.f0=true
theorem rowsC_ok (lo hi:Int):∀ (l:List Zh) (p:Option ByteArray),Zd2 lo hi p l=0↔((∀ r∈l,RowOK lo hi r)∧l.Pairwise (fun r q=>bl r.f0 q.f0=true)∧∀ k,p=some k→∀ r∈l,bl k r.f0=true)
 | [],p=>by simp[Zd2]
 | r::l,p=>by
  have key:rowC lo hi p r=0↔(RowOK lo hi r∧∀ k,p=some k→bl k r.f0=true):=by
   unfold rowC;cases h1:keyB r.f0 with
   | false=>simp;intro h;have:=h.k;rw[h1] at this;simp at this
   | true =>
    have hp:behK p r.f0=true↔∀ k,p=some k→bl k r.f0=true:=by
     cases p with
     | none=>simp[behK]
     | some q=>simp[behK]
    rw[Bool.true_and];by_cases h2:behK p r.f0=true
    ·rw[if_pos h2]
     by_cases h3:(!r.f1.isEmpty&&rise none r.f1&&r.f1.all fun s=>decide (lo≤s.f0∧s.f0<hi))=true
     ·rw[if_pos h3]
      simp only[Bool.and_eq_true,Bool.not_eq_true',List.isEmpty_eq_false_iff,List.all_eq_true,decide_eq_true_eq] at h3;exact⟨fun _=>⟨⟨h1,h3.1.1,h3.1.2,h3.2⟩,hp.1 h2⟩,fun _=>rfl⟩
     ·rw[if_neg h3]
      refine⟨fun h=>by simp at h,fun h=>absurd ?_ h3⟩;simp only[Bool.and_eq_true,Bool.not_eq_true',List.isEmpty_eq_false_iff,List.all_eq_true,decide_eq_true_eq];exact⟨⟨h.1.ne,h.1.up⟩,h.1.at_⟩
    ·rw[if_neg h2]
     exact⟨fun h=>by simp at h,fun h=>absurd (hp.2 h.2) h2⟩
  rw[Zd2];by_cases h:rowC lo hi p r=0
  ·rw[if_pos h,rowsC_ok lo hi l (some r.f0)]
   obtain⟨k1,k2⟩:=key.1 h;constructor
   ·rintro⟨g1,g2,g3⟩
    refine⟨fun x hx => ?_,List.pairwise_cons.2 ⟨fun x hx=>g3 _ rfl x hx,g2⟩,fun k hk x hx => ?_⟩
    ·rcases List.mem_cons.1 hx with rfl | hx
     ·exact k1
     ·exact g1 x hx
    ·rcases List.mem_cons.1 hx with rfl | hx
     ·exact k2 k hk
     ·exact Za9 _ _ _ (k2 k hk) (g3 _ rfl x hx)
   ·rintro⟨g1,g2,g3⟩
    obtain⟨p1,p2⟩:=List.pairwise_cons.1 g2;exact⟨fun x hx=>g1 x (by simp[hx]),p2,fun k hk x hx=>by cases hk;exact p1 x hx⟩
  ·rw[if_neg h]
   refine⟨fun g=>absurd g h,fun⟨g1,g2,g3⟩=>absurd (key.2 ⟨g1 r (by simp),fun k hk=>g3 k hk r (by simp)⟩) h⟩
theorem blkC_ok (b:Z2):blkC b=0↔BlkOK b:=by
 unfold blkC;by_cases h:Z79 b.f0
 ·rw[if_pos h]
  by_cases c:b.f1.length=0∨64<b.f1.length
  ·rw[if_pos c]
   refine⟨fun h=>by simp at h,fun k => ?_⟩;have h1:=k.ne;have h2:=k.len;have:b.f1.length≠0:=fun h=>h1 (List.length_eq_zero_iff.1 h);omega
  ·rw[if_neg c,rowsC_ok]
   constructor
   ·rintro⟨g1,g2,_⟩
    exact⟨h,fun e=>by rw[e] at c;simp at c,by omega,g1,g2⟩
   ·intro k;exact⟨k.rows,k.up,by simp⟩
 ·rw[if_neg h];exact⟨fun h=>by simp at h,fun k=>absurd k.m h⟩
theorem ssort (l:List ByteArray) (hl:l.length<1000000000):∃ r,Z2t.f l=some r∧r.Perm l∧r.Pairwise (fun a b=>bl b a=false):=by
 refine⟨Zao l,?_,sortB_perm l,sortB_up l⟩;unfold Z2t.f;rw[chkB (by omega)]
def ddS (acc:List ByteArray) (y:ByteArray):List ByteArray:=if acc.getLast? = some y then acc else acc++[y]
def dd (l:List ByteArray):List ByteArray:=l.foldl ddS []
theorem Zec (l:List ByteArray) (y:ByteArray):dd (l++[y])=ddS (dd l) y:=by simp[dd,List.foldl_append]
theorem dd_last (l:List ByteArray):(dd l).getLast? = l.getLast? := by
 refine Z7d (P:=fun l=>(dd l).getLast? = l.getLast?) rfl (fun l x _ => ?_) l;rw[Zec];unfold ddS;split
 ·rename_i h;rw[h];simp
 ·simp
theorem dd_mem (l:List ByteArray):∀ x,x∈dd l↔x∈l:=by
 refine Z7d (P:=fun l=>∀ x,x∈dd l↔x∈l) (fun x=>by simp[dd]) (fun l y ih x => ?_) l;rw[Zec];unfold ddS;split
 ·rename_i h
  rw[List.mem_append,← ih];refine⟨.inl,fun h' => ?_⟩;rcases h' with h' | h'
  ·exact h'
  ·simp at h';subst h';exact List.mem_of_getLast? h
 ·rw[List.mem_append,List.mem_append,ih]
theorem dd_len (l:List ByteArray):(dd l).length≤l.length:=by
 refine Z7d (P:=fun l=>(dd l).length≤l.length) (Nat.le_refl _) (fun l y ih => ?_) l;rw[Zec];unfold ddS;split
 ·simp;omega
 ·simp;omega
theorem Zb5 {α:Type} (l:List α) (m:Nat) (h:m<l.length):l.take (m+1)=l.take m++[l[m]]:=by rw[List.take_succ_eq_append_getElem h]
theorem last_take {α:Type} (l:List α) (m:Nat) (h:m<l.length):(l.take (m+1)).getLast? = some l[m]:=by rw[Zb5 l m h,List.getLast?_concat]
theorem dd_step (l:List ByteArray) (m:Nat) (h:m+1<l.length):dd (l.take (m+2))=if l[m+1]=l[m] then dd (l.take (m+1)) else dd (l.take (m+1))++[l[m+1]]:=by
 rw[Zb5 l (m+1) h,Zec];unfold ddS;rw[dd_last,last_take l m (by omega)];by_cases e:l[m+1]=l[m]
 ·rw[if_pos (by rw[e]),if_pos e]
 ·rw[if_neg (fun q=>e (Option.some.inj q).symm),if_neg e]
theorem compact_l1 (a:List ByteArray) (k:Nat) (hk:1≤k) (ha:a.length<1000000000) (hkl:k<a.length):∀ (n k2:Nat) (x:List ByteArray) (w:Nat),k2+n=a.length-k→1≤k2→x.length=a.length→w≤k+k2-1→x.take w=dd (a.take (k+k2))→(dd (a.take (k+k2))).length=w→x.drop (k+k2-1)=a.drop (k+k2-1) →
  ∃ x',Zp.l1 a (k:Int) x (w:Int) (k2:Int)=some (x',((dd a).length:Int))∧x'.length=a.length∧x'.take (dd a).length=dd a:=by
 intro n
 induction n with
 | zero =>
  intro k2 x w h1 h2 hx hw ht hlw hd;have e:a.take (k+k2)=a:=List.take_of_length_le (by omega);rw[e] at ht hlw;rw[Zp.l1,if_neg (by simp;omega)];exact⟨x,by rw[hlw],hx,by rw[hlw,ht]⟩
 | succ n ih =>
  intro k2 x w h1 h2 hx hw ht hlw hd;obtain⟨m,hm⟩:∃ m,k+k2=m+1:=⟨k+k2-1,by omega⟩
  have hm1:m+1<a.length:=by omega
  rw[hm] at ht hlw;have hdg:∀ i,m≤i→x[i]? = a[i]? := fun i hi=>by
   have:=congrArg (fun l=>l[i-m]?) hd;simp only[List.getElem?_drop,hm,show m+1-1+(i-m)=i from by omega] at this;exact this
  have g1:x[m+1]? = some a[m+1]:=by rw[hdg _ (by omega)];exact List.getElem?_eq_getElem hm1
  have g2:x[m]? = some a[m]:=by rw[hdg _ (Nat.le_refl _)];exact List.getElem?_eq_getElem (by omega)
  have st:=dd_step a m hm1;rw[Zp.l1];simp only[Int.toNat_natCast];rw[if_pos (by simp;omega),chkB ⟨by omega,by omega⟩,Z69 (l:=x) (k:=m+1) (by rw[hm]) g1,sb,Z8 (n:=(k2:Int)-1) (by omega) (by omega),show((k2:Int)-1)=((k2-1:Nat):Int) from by omega,chkB ⟨by omega,by omega⟩];simp only[Int.toNat_natCast];rw[Z69 (l:=x) (k:=m) (by rw[show k+(k2-1)=m from by omega]) g2,sb,eqB,Z8 (n:=(k2:Int)+1) (by omega) (by omega),show((k2:Int)+1)=((k2+1:Nat):Int) from by omega];have hdrop:(x.drop (k+(k2+1)-1))=a.drop (k+(k2+1)-1):=by
   rw[show k+(k2+1)-1=m+1 from by omega];apply List.ext_getElem?;intro i;rw[List.getElem?_drop,List.getElem?_drop];exact hdg _ (by omega)
  by_cases e:a[m+1]=a[m]
  ·rw[if_neg (by simp[e]),sb]
   dsimp only;rw[if_pos e] at st;exact ih (k2+1) x w (by omega) (by omega) hx (by omega) (by rw[ht,show k+(k2+1)=m+2 from by omega,st]) (by rw[show k+(k2+1)=m+2 from by omega,st];exact hlw) hdrop
  ·rw[if_neg e] at st
   have hwx:w<x.length:=by omega
   rw[if_pos (by simp[e]),Z69 (l:=x) (k:=w) rfl (List.getElem?_eq_getElem hwx),sb,sb,Z8 (n:=(w:Int)+1) (by omega) (by omega),show((w:Int)+1)=((w+1:Nat):Int) from by omega];dsimp only;refine ih (k2+1) (x.set w a[m+1]) (w+1) (by omega) (by omega) (by simp[hx]) (by omega) ?_ ?_ ?_
   ·rw[show k+(k2+1)=m+2 from by omega,st,← ht]
    rw[List.take_set,Zb5 x w hwx,List.set_append,if_neg (by simp;omega)];simp[Nat.min_eq_left (Nat.le_of_lt hwx)]
   ·rw[show k+(k2+1)=m+2 from by omega,st,List.length_append,hlw];rfl
   ·rw[List.drop_set_of_lt (by omega)];exact hdrop
theorem compact_l0 (a:List ByteArray) (ha:a.length<1000000000) (h2:2≤a.length):∀ (n k:Nat),k+n=a.length→1≤k→dd (a.take k)=a.take k →
  Zp.l0 a (k:Int)=some (.inl (dd a))∨(Zp.l0 a (k:Int)=some (.inr ())∧dd a=a):=by
 intro n
 induction n with
 | zero =>
  intro k h1 hk hd;rw[Zp.l0,if_neg (by simp;omega)];rw[List.take_of_length_le (by omega)] at hd;exact .inr ⟨rfl,hd⟩
 | succ n ih =>
  intro k h1 hk hd;obtain⟨m,rfl⟩:∃ m,k=m+1:=⟨k-1,by omega⟩
  have hm1:m+1<a.length:=by omega
  have st:=dd_step a m hm1;rw[Zp.l0,if_pos (by simp;omega),Z69 (k:=m+1) rfl (List.getElem?_eq_getElem hm1),sb,Z8 (n:=((m+1:Nat):Int)-1) (by omega) (by omega),Z69 (k:=m) (by omega) (List.getElem?_eq_getElem (by omega)),sb,eqB];by_cases e:a[m+1]=a[m]
  ·rw[if_pos (by simp[e]),chkB ⟨by omega,by omega⟩]
   rw[if_pos e] at st;have hlt:(a.take (m+1)).length=m+1:=by simp;omega
   obtain⟨x',e1,e2,e3⟩:=compact_l1 a (m+1) (by omega) ha hm1 (a.length-(m+1)-1) 1 a (m+1) (by omega) (by omega) rfl (by omega) (by rw[st,hd]) (by rw[st,hd];exact hlt) rfl;have hdl:=dd_len a;rw[show(1:Int)=((1:Nat):Int) from rfl,e1,sb];dsimp only;simp only[Int.toNat_natCast];rw[chkB ⟨by omega,by omega⟩,chkB ⟨by omega,by simp;omega⟩];refine .inl ?_;congr 2;rw[List.take_append_of_le_length (by simp;omega),List.take_take,Nat.min_self,e3]
  ·rw[if_neg (by simp[e]),Z8     (by omega) (by omega)]
   rw[if_neg e,hd] at st;exact ih (m+2) (by omega) (by omega) (by rw[st,Zb5 a (m+1) hm1])
theorem compact_eq (a:List ByteArray) (ha:a.length<1000000000):Zp.f a=some (dd a):=by
 unfold Zp.f;by_cases h2:a.length<2
 ·rw[if_pos (by simp;omega)]
  match a,h2 with
  | [],_=>rfl
  | [x],_=>rfl
 ·rw[if_neg (by simp;omega)]
  have h1:dd (a.take 1)=a.take 1:=by
   match a,h2 with
   | x::_,_=>rfl
  rcases compact_l0 a ha (by omega) (a.length-1) 1 (by omega) (Nat.le_refl _) h1 with e | ⟨e,e2⟩
  ·rw[show(1:Int)=((1:Nat):Int) from rfl,e,sb]
  ·rw[show(1:Int)=((1:Nat):Int) from rfl,e,sb,e2]
end Go.Proofs.YtpoihfcehejgfaaGreat.PvGS1
