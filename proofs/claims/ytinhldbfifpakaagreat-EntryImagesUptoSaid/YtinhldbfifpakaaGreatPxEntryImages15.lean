import Derived.Test.YtinhldbfifpakaaGreatPxEntryImages14
set_option linter.unusedVariables false
set_option linter.unusedSimpArgs false
set_option maxRecDepth 100000
namespace Go.Proofs.YtinhldbfifpakaaGreat.PvGL3
open Go Go.Pv Go.Pv.GS Go.IntKind
variable {b:List Int}
theorem Zau {p n:Nat} (hp:p≤1000000) (hn:n≤1000000):i64.wrap (i64.wrap ((2:Int)+(p:Int))+(n:Int))=((2+p+n:Nat):Int):=by
 rw[Zc (n:=(2:Int)+(p:Int)) (by omega) (by omega),Zc (by omega) (by omega)];omega
theorem s1_0 (hb:Src b) (H:Zj) (L M:Zf) (t:Int×Int×Int) (P N:List Int) (hP:P.length≤1000000) (hN:N.length≤1000000) (la:Int) (o:List Z7) (tm:Int) (step:List Int) (z:List Bool) :
  ∀ (sn pn sx:List Int) (a:Nat) (k:Int),pn.length+sn.length=2+P.length+N.length→sx.length=sn.length→k=(pn.length:Int)→(∀ n∈sn,U64 n)→a≤8*b.length→(Z0f b).drop a=row0 sn++z →
  ∃ a':Nat,Zy.l1 b H L M t P N la o 0 tm (a:Int) 0 (pn++sx) step k=some ((a':Int),0,pn++sn,step)∧a'≤8*b.length∧(Z0f b).drop a'=z:=by
 intro sn
 induction sn with
 | nil =>
  intro pn sx a k h1 h2 hk _ ha h;have hsx:sx=[]:=List.length_eq_zero_iff.1 (by simpa using h2);subst hsx;rw[Zy.l1,Zau hP hN,if_neg (by simp at h1 ⊢;omega)];exact⟨a,rfl,ha,by simpa[row0] using h⟩
 | cons n sn ih =>
  intro pn sx a k h1 h2 hk hu ha h;cases sx with
  | nil=>simp at h2
  | cons x sx =>
   simp only[List.length_cons] at h1 h2;have hn:=hu n (by simp);rw[Ze1,List.append_assoc] at h;have c:=Zem hb (n:=n.toNat) (by have:=hn.1;have:=hn.2;omega) ha h;have l1:=congrArg List.length h;simp only[List.length_drop,Z15,List.length_append] at l1;rw[Int.toNat_of_nonneg hn.1] at c;rw[Zy.l1,Zau hP hN,if_pos (by simp;omega),if_pos (by simp),c,sb,Z7s pn x sx hk,sb,sb];dsimp only;rw[Z9t pn x n sx hk,Zc (n:=k+1) (by omega) (by omega)];obtain⟨a',e,g1,g2⟩:=ih (pn++[n]) sx (a+(cnt2 n.toNat).length) (k+1) (by simp;omega) (by omega) (by simp;omega) (fun m hm=>hu m (by simp[hm])) (by omega) (by rw[← List.drop_drop,h,List.drop_left]);rw[List.append_assoc,List.singleton_append,List.append_assoc,List.singleton_append] at e;exact⟨a',e,g1,g2⟩
theorem back1 {n w:Int} (hn:U64 n):u64.wrap (w+u64.wrap (i64.wrap (u64.wrap (n-w))))=n:=by
 have:=hn.1;have:=hn.2;simp only[Z6g,Z7k];omega
theorem s1_1 (hb:Src b) (H:Zj) (L M:Zf) (t:Int×Int×Int) (P N:List Int) (hP:P.length≤1000000) (hN:N.length≤1000000) (la:Int) (o:List Z7) (tm:Int) (z:List Bool) :
  ∀ (sn pn sw ss ps:List Int) (a:Nat) (k:Int),pn.length+sn.length=2+P.length+N.length→sw.length=sn.length→ss.length=sn.length→ps.length=pn.length→k=(pn.length:Int)→(∀ n∈sn,U64 n)→a≤8*b.length→(Z0f b).drop a=row1 sn sw++z →
  ∃ a':Nat,Zy.l1 b H L M t P N la o 1 tm (a:Int) 0 (pn++sw) (ps++ss) k=some ((a':Int),0,pn++sn,ps++subR sn sw)∧a'≤8*b.length∧(Z0f b).drop a'=z:=by
 intro sn
 induction sn with
 | nil =>
  intro pn sw ss ps a k h1 h2 h3 h4 hk _ ha h;have hsw:sw=[]:=List.length_eq_zero_iff.1 (by simpa using h2);have hss:ss=[]:=List.length_eq_zero_iff.1 (by simpa using h3);subst hsw;subst hss;rw[Zy.l1,Zau hP hN,if_neg (by simp at h1 ⊢;omega)];exact⟨a,by simp[subR],ha,by simpa[row1] using h⟩
 | cons n sn ih =>
  intro pn sw ss ps a k h1 h2 h3 h4 hk hu ha h;cases sw with
  | nil=>simp at h2
  | cons w sw =>
   cases ss with
   | nil=>simp at h3
   | cons v ss =>
    simp only[List.length_cons] at h1 h2 h3;have hn:=hu n (by simp);rw[Z8u,List.append_assoc] at h;have c:=Zeg hb (Zaf (u64.wrap (n-w))) ha h;have l1:=congrArg List.length h;simp only[List.length_drop,Z15,List.length_append] at l1;have hst:u64.wrap (i64.wrap (u64.wrap (n-w)))=u64.wrap (n-w):=by simp only[Z6g,Z7k];omega
    have hbk:=back1 (w:=w) hn;rw[hst] at hbk;rw[Zy.l1,Zau hP hN,if_pos (by simp;omega),if_neg (by simp),if_pos (by simp),c,sb,Z7s ps v ss (by omega),sb,Z7s pn w sw hk,sb];dsimp only;rw[Z9t ps v _ ss (by omega),Z7s ps _ ss (by omega),sb,sb];dsimp only;rw[sb];dsimp only;rw[Z9t pn w _ sw hk,hst,hbk,Zc (n:=k+1) (by omega) (by omega)];obtain⟨a',e,g1,g2⟩:=ih (pn++[n]) sw ss (ps++[u64.wrap (n-w)]) (a+(intB (i64.wrap (u64.wrap (n-w)))).length) (k+1) (by simp;omega) (by omega) (by omega) (by simp;omega) (by simp;omega) (fun m hm=>hu m (by simp[hm])) (by omega) (by rw[← List.drop_drop,h,List.drop_left]);rw[List.append_assoc,List.singleton_append,List.append_assoc,List.singleton_append,List.append_assoc,List.singleton_append,List.append_assoc,List.singleton_append] at e;exact⟨a',by rw[Z7l];exact e,g1,g2⟩
theorem s1_2 (hb:Src b) (H:Zj) (L M:Zf) (t:Int×Int×Int) (P N:List Int) (hP:P.length≤1000000) (hN:N.length≤1000000) (la:Int) (o:List Z7) (i tm:Int) (hi:2≤i) (z:List Bool) :
  ∀ (sn pn sw ss ps:List Int) (a:Nat) (k:Int),pn.length+sn.length=2+P.length+N.length→sw.length=sn.length→ss.length=sn.length→ps.length=pn.length→k=(pn.length:Int)→(∀ n∈sn,U64 n)→a≤8*b.length→(Z0f b).drop a=row1 (subR sn sw) ss++z →
  ∃ a':Nat,Zy.l1 b H L M t P N la o i tm (a:Int) 0 (pn++sw) (ps++ss) k=some ((a':Int),0,pn++sn,ps++subR sn sw)∧a'≤8*b.length∧(Z0f b).drop a'=z:=by
 intro sn
 induction sn with
 | nil =>
  intro pn sw ss ps a k h1 h2 h3 h4 hk _ ha h;have hsw:sw=[]:=List.length_eq_zero_iff.1 (by simpa using h2);have hss:ss=[]:=List.length_eq_zero_iff.1 (by simpa using h3);subst hsw;subst hss;rw[Zy.l1,Zau hP hN,if_neg (by simp at h1 ⊢;omega)];exact⟨a,by simp[subR],ha,by simpa[row1,subR] using h⟩
 | cons n sn ih =>
  intro pn sw ss ps a k h1 h2 h3 h4 hk hu ha h;cases sw with
  | nil=>simp at h2
  | cons w sw =>
   cases ss with
   | nil=>simp at h3
   | cons v ss =>
    simp only[List.length_cons] at h1 h2 h3;have hn:=hu n (by simp);rw[Z7l,Z8u,List.append_assoc] at h;have c:=Zeg hb (Zaf (u64.wrap (u64.wrap (n-w)-v))) ha h;have l1:=congrArg List.length h;simp only[List.length_drop,Z15,List.length_append] at l1;have hst:u64.wrap (v+u64.wrap (i64.wrap (u64.wrap (u64.wrap (n-w)-v))))=u64.wrap (n-w):=by simp only[Z6g,Z7k];omega
    have hbk:u64.wrap (w+u64.wrap (n-w))=n:=by
     have:=hn.1;have:=hn.2;simp only[Z6g];omega
    rw[Zy.l1,Zau hP hN,if_pos (by simp;omega),if_neg (by simp;omega),if_neg (by simp;omega),Z7s ps v ss (by omega),sb,c,sb,Z7s pn w sw hk,sb];dsimp only;rw[Z9t ps v _ ss (by omega),Z7s ps _ ss (by omega),sb,sb];dsimp only;rw[sb];dsimp only;rw[Z9t pn w _ sw hk,hst,hbk,Zc (n:=k+1) (by omega) (by omega)];obtain⟨a',e,g1,g2⟩:=ih (pn++[n]) sw ss (ps++[u64.wrap (n-w)]) (a+(intB (i64.wrap (u64.wrap (u64.wrap (n-w)-v)))).length) (k+1) (by simp;omega) (by omega) (by omega) (by simp;omega) (by simp;omega) (fun m hm=>hu m (by simp[hm])) (by omega) (by rw[← List.drop_drop,h,List.drop_left]);rw[List.append_assoc,List.singleton_append,List.append_assoc,List.singleton_append,List.append_assoc,List.singleton_append,List.append_assoc,List.singleton_append] at e;exact⟨a',by rw[Z7l];exact e,g1,g2⟩
theorem make_id {h g:Zj} (v:Z2u h) (f:Fits h) (e0:g.f0=h.f0) (e1:g.f1=h.f1) (e2:g.f2=h.f2) (e3:g.f3=h.f3) (e5:g.f5=h.f5):Z48.f g h.f6 h.f7=some (h,0):=by
 have m0:=v.pos.len;have m1:=v.neg.len;have ht:=v.total;have t1:=tidy_id h.f6 (by omega) (fun y hy=>(f.pos y hy).2) v.pos.canon;have t2:=tidy_id h.f7 (by omega) (fun y hy=>(f.neg y hy).2) v.neg.canon;have t3:=total3 h.f6 h.f7 h.f3 (by omega) (by omega) (fun y hy=>(f.pos y hy).2) (fun y hy=>(f.neg y hy).2) f.zero;rw[if_pos ht,← v.count] at t3;unfold Z48.f;rw[t1,sb,t2,sb,if_neg (by simp),e3,t3,sb,if_neg (by simp),e0,e1,e2,e5];dsimp only;rw[show Z0r.f (⟨h.f0,h.f1,h.f2,h.f3,h.f4,h.f5,h.f6,h.f7⟩:Zj)=_ from check_T h f v,sb,if_neg (by simp)]
theorem cut_p (h:Zj) (P N:List Int):((Z28 h P N).drop (Int.toNat (2:Int))).take (Int.toNat (((2+P.length:Nat):Int))-Int.toNat (2:Int))=P.map (tot h.f6):=by
 have e:(Z28 h P N).drop 2=P.map (tot h.f6)++N.map (tot h.f7):=by unfold Z28;simp
 rw[show Int.toNat (2:Int)=2 from rfl,e,Int.toNat_natCast,Nat.add_sub_cancel_left,List.take_left' (by simp)]
theorem cut_n (h:Zj) (P N:List Int):((Z28 h P N).drop (Int.toNat (((2+P.length:Nat):Int)))).take (Int.toNat (((Z28 h P N).length:Int))-Int.toNat (((2+P.length:Nat):Int)))=N.map (tot h.f7):=by
 have e:(Z28 h P N).drop (2+P.length)=N.map (tot h.f7):=by
  unfold Z28;rw[List.drop_left' (by simp;omega)]
 rw[Int.toNat_natCast,Int.toNat_natCast,e,Z4z];exact List.take_of_length_le (by simp)
theorem smp_l0 (hb:Src b) {l:List Z7} (hc:COk l) (hF:∀ s∈l,Fits s.f1) (H:Zj) (hH:∀ s∈l,H.f0=s.f1.f0∧H.f1=s.f1.f1∧H.f2=s.f1.f2) (t:Int×Int×Int) (ht:t.1=(l.length:Int)-1) (z:List Bool) :
  ∀ (suf pre:List Z7) (q p:Option Z7) (was step:List Int) (la gap:Int) (a:Nat) (i:Int),l=pre++suf→i=(pre.length:Int)→Two pre q p→was.length=2+(allI 0 l).length+(allI 1 l).length→step.length=2+(allI 0 l).length+(allI 1 l).length →
  (∀ x,p=some x→was=Z28 x.f1 (allI 0 l) (allI 1 l)∧la=x.f0)→(∀ y x,q=some y→p=some x→step=subR (Z28 x.f1 (allI 0 l) (allI 1 l)) (Z28 y.f1 (allI 0 l) (allI 1 l))∧gap=x.f0-y.f0)→(p=none→la=0) →
  a≤8*b.length→(Z0f b).drop a=body (allI 0 l) (allI 1 l) q p suf++z →
  ∃ a':Nat,Zy.l0 b H (lay (allI 0 l)) (lay (allI 1 l)) t (allI 0 l) (allI 1 l) ((a:Int),0,was,step,la,gap,pre,i)=some (l,(a':Int),0)∧a'≤8*b.length∧(Z0f b).drop a'=z:=by
 obtain⟨iP,iN⟩:=hc.ids hF;have lP:=hc.pos;have lN:=hc.neg;have h32:=hc.len;intro suf
 induction suf with
 | nil =>
  intro pre q p was step la gap a i h1 hi h2 hw hs hp hq hn ha h;rw[List.append_nil] at h1;subst h1;rw[Zy.l0];dsimp only;rw[ht,Zc (by omega) (by omega),if_neg (by simp;omega),sb,if_neg (by simp)];exact⟨a,rfl,ha,by cases q<;>cases p<;>simpa[body] using h⟩
 | cons x suf ih =>
  intro pre q p was step la gap a i h1 hi h2 hw hs hp hq hn ha h;have hlen:l.length=pre.length+(suf.length+1):=by rw[h1];simp
  have hx:=hc.ok x (by rw[h1];simp);have fx:=hF x (by rw[h1];simp);have hHx:=hH x (by rw[h1];simp);have hrl:=Z4z x.f1 (allI 0 l) (allI 1 l);have hru:=rows_u64 hx.1 fx (allI 0 l) (allI 1 l);have hup:=hc.up;rw[h1] at hup;have h2x:=h2.next x
  have hbkP:bks (allI 0 l) ((allI 0 l).map (tot x.f1.f6))=x.f1.f6:=bks_self iP.1 hx.1.pos.canon (fun y hy=>(allI_mem 0 y.f0 l).2 ⟨x,by rw[h1];simp,List.mem_map.2 ⟨y,hy,rfl⟩⟩);have hbkN:bks (allI 1 l) ((allI 1 l).map (tot x.f1.f7))=x.f1.f7:=bks_self iN.1 hx.1.neg.canon (fun y hy=>(allI_mem 1 y.f0 l).2 ⟨x,by rw[h1];simp,List.mem_map.2 ⟨y,hy,rfl⟩⟩);have hB1:=Zfk (Z9h iP.sm (by omega)) (by omega) (c:=(allI 0 l).map (tot x.f1.f6)) (by simp);have hB2:=Zfk (Z9h iN.sm (by omega)) (by omega) (c:=(allI 1 l).map (tot x.f1.f7)) (by simp);rw[hbkP] at hB1;rw[hbkN] at hB2;have hsum:i64.wrap (u64.wrap x.f1.f5)=x.f1.f5:=by
   have:=fx.sum.1;have:=fx.sum.2;simp only[Z6g,Z7k];omega
  have w2:i64.wrap ((2:Int)+((allI 0 l).length:Int))=((2+(allI 0 l).length:Nat):Int):=by rw[Zc (by omega) (by omega)];omega
  have fin:∀ (a1:Nat) (st:List Int) (gp:Int),st.length=2+(allI 0 l).length+(allI 1 l).length→a1≤8*b.length→(∀ y x',p=some y→some x=some x'→st=subR (Z28 x'.f1 (allI 0 l) (allI 1 l)) (Z28 y.f1 (allI 0 l) (allI 1 l))∧gp=x'.f0-y.f0)→(Z0f b).drop a1=body (allI 0 l) (allI 1 l) p (some x) suf++z →
    ∃ a':Nat,((at? (Z28 x.f1 (allI 0 l) (allI 1 l)) 0)>>=fun b3364=>(at? (Z28 x.f1 (allI 0 l) (allI 1 l)) 1)>>=fun b3367=>(chk (0≤(2:Int)∧(2:Int)≤(i64.wrap ((2:Int)+((allI 0 l).length:Int)))∧(i64.wrap ((2:Int)+((allI 0 l).length:Int)))≤((Z28 x.f1 (allI 0 l) (allI 1 l)).length:Int)))>>=fun _=>(Z24.f (lay (allI 0 l)) (((Z28 x.f1 (allI 0 l) (allI 1 l)).drop (Int.toNat (2:Int))).take (Int.toNat (i64.wrap ((2:Int)+((allI 0 l).length:Int)))-Int.toNat (2:Int))))>>=fun t3377=>(chk (0≤(i64.wrap ((2:Int)+((allI 0 l).length:Int)))∧(i64.wrap ((2:Int)+((allI 0 l).length:Int)))≤((Z28 x.f1 (allI 0 l) (allI 1 l)).length:Int)∧((Z28 x.f1 (allI 0 l) (allI 1 l)).length:Int)≤((Z28 x.f1 (allI 0 l) (allI 1 l)).length:Int)))>>=fun _=>(Z24.f (lay (allI 1 l)) (((Z28 x.f1 (allI 0 l) (allI 1 l)).drop (Int.toNat (i64.wrap ((2:Int)+((allI 0 l).length:Int))))).take (Int.toNat ((Z28 x.f1 (allI 0 l) (allI 1 l)).length:Int)-Int.toNat (i64.wrap ((2:Int)+((allI 0 l).length:Int))))))>>=fun t3380=>(Z48.f (⟨H.f0,H.f1,H.f2,b3364,H.f4,i64.wrap (b3367),t3377,t3380⟩:Zj) t3377 t3380)>>=fun t3386=>(chk ((pre.length+[(⟨x.f0,(t3386.1)⟩:Z7)].length)*104≤140737488355328))>>=fun _=>Zy.l0 b H (lay (allI 0 l)) (lay (allI 1 l)) t (allI 0 l) (allI 1 l) ((a1:Int),0,Z28 x.f1 (allI 0 l) (allI 1 l),st,x.f0,gp,pre++[(⟨x.f0,(t3386.1)⟩:Z7)],i64.wrap (i+(1:Int))))=some (l,(a':Int),0)∧a'≤8*b.length∧(Z0f b).drop a'=z:=by
   intro a1 st gp hst ha1 hsg hd;have A0:at? (Z28 x.f1 (allI 0 l) (allI 1 l)) 0=some x.f1.f3:=rfl;have A1:at? (Z28 x.f1 (allI 0 l) (allI 1 l)) 1=some (u64.wrap x.f1.f5):=rfl;rw[A0,sb,A1,sb,w2,chkB (by rw[hrl];omega),cut_p,hB1,sb,chkB (by rw[hrl];omega),cut_n,hB2,sb,hsum];rw[make_id hx.1 fx (g:=⟨H.f0,H.f1,H.f2,x.f1.f3,H.f4,x.f1.f5,x.f1.f6,x.f1.f7⟩) hHx.1 hHx.2.1 hHx.2.2 rfl rfl,sb,chkB (by simp;omega),Zc (n:=i+1) (by omega) (by omega)];exact ih (pre++[x]) p (some x) _ st x.f0 gp a1 (i+1) (by simp[h1]) (by simp;omega) h2x hrl hst (fun y hy=>by cases hy;exact⟨rfl,rfl⟩) hsg (fun hy=>by cases hy) ha1 hd
  rw[Zy.l0];dsimp only;rw[ht,Zc (n:=1+((l.length:Int)-1)) (by omega) (by omega),if_pos (by simp;omega),err_eq,sb,sb,if_pos (by simp)];rcases h2 with ⟨rfl,rfl,rfl⟩ | ⟨y,rfl,rfl,rfl⟩ | ⟨P0,y,w,rfl,rfl,rfl⟩
  ·have hi0:i=0:=by simpa using hi
   subst hi0;rw[body,List.append_assoc,List.append_assoc] at h;have c:=Z4b hb (n:=x.f0.toNat) (m:=1099511627776) (by omega) (by omega) ha h;have l1:=congrArg List.length h;simp only[List.length_drop,Z15,List.length_append] at l1;rw[Int.toNat_of_nonneg hx.2.1] at c;rw[if_pos (by simp),show Za.f b (a:Int) 0 1099511627776=_ from c,sb,sb];dsimp only;obtain⟨a1,e1,g1,g2⟩:=s1_0 hb H (lay (allI 0 l)) (lay (allI 1 l)) t (allI 0 l) (allI 1 l) (by omega) (by omega) la [] x.f0 step (body (allI 0 l) (allI 1 l) none (some x) suf++z) (Z28 x.f1 (allI 0 l) (allI 1 l)) [] was (a+(cnt2 x.f0.toNat).length) 0 (by simpa using hrl) (by omega) rfl hru (by omega) (by rw[← List.drop_drop,h,List.drop_left]);rw[List.nil_append,List.nil_append] at e1;rw[e1,sb];exact fin a1 step _ hs g1 (fun y x' hy=>by cases hy) g2
  ·have hi1:i=1:=by simpa using hi
   subst hi1;obtain⟨rfl,rfl⟩:=hp y rfl;have hy:=hc.ok y (by rw[h1];simp);have hyx:y.f0<x.f0:=(List.pairwise_append.1 hup).2.2 y (by simp) x (by simp);have hyl:=Z4z y.f1 (allI 0 l) (allI 1 l);rw[body,List.append_assoc,List.append_assoc] at h;have c:=Z4b hb (n:=(x.f0-y.f0-1).toNat) (m:=1099511627776) (by omega) (by omega) ha h;have l1:=congrArg List.length h;simp only[List.length_drop,Z15,List.length_append] at l1;have e0:i64.wrap (i64.wrap (y.f0+1)+((x.f0-y.f0-1).toNat:Int))=x.f0:=by
    rw[Zc (n:=y.f0+1) (by omega) (by omega),Zc (by omega) (by omega)];omega
   rw[if_neg (by simp),if_pos (by simp),show Za.f b (a:Int) 0 1099511627776=_ from c,sb];dsimp only;rw[sb];dsimp only;rw[sb];dsimp only;rw[e0];obtain⟨a1,e1,g1,g2⟩:=s1_1 hb H (lay (allI 0 l)) (lay (allI 1 l)) t (allI 0 l) (allI 1 l) (by omega) (by omega) y.f0 [y] x.f0 (body (allI 0 l) (allI 1 l) (some y) (some x) suf++z) (Z28 x.f1 (allI 0 l) (allI 1 l)) [] (Z28 y.f1 (allI 0 l) (allI 1 l)) step [] (a+(cnt2 (x.f0-y.f0-1).toNat).length) 0 (by simpa using hrl) (by omega) (by omega) rfl rfl hru (by omega) (by rw[← List.drop_drop,h,List.drop_left]);rw[List.nil_append,List.nil_append,List.nil_append,List.nil_append] at e1;rw[e1,sb];dsimp only;rw[Zc (n:=x.f0-y.f0) (by omega) (by omega)];exact fin a1 _ _ (by rw[Za9 (by omega)];exact hrl) g1 (fun y' x' hy hx=>by cases hy;cases hx;exact⟨rfl,rfl⟩) g2
  ·have hi2:2≤i:=by rw[hi];simp;omega
   obtain⟨rfl,rfl⟩:=hp w rfl;obtain⟨rfl,rfl⟩:=hq y w rfl rfl;have hw':=hc.ok w (by rw[h1];simp);have hy:=hc.ok y (by rw[h1];simp);have hwx:w.f0<x.f0:=(List.pairwise_append.1 hup).2.2 w (by simp) x (by simp);have hwl:=Z4z w.f1 (allI 0 l) (allI 1 l);have hyl:=Z4z y.f1 (allI 0 l) (allI 1 l);rw[body,List.append_assoc,List.append_assoc] at h;have c:=Zeg hb (x:=x.f0-2*w.f0+y.f0) (by omega) ha h;have l1:=congrArg List.length h;simp only[List.length_drop,Z15,List.length_append] at l1;have e0:i64.wrap (i64.wrap (w.f0+(w.f0-y.f0))+(x.f0-2*w.f0+y.f0))=x.f0:=by
    rw[Zc (n:=w.f0+(w.f0-y.f0)) (by omega) (by omega),Zc (by omega) (by omega)];omega
   rw[if_neg (by simp;omega),if_neg (by simp;omega),c,sb];dsimp only;rw[sb];dsimp only;rw[sb];dsimp only;rw[e0];obtain⟨a1,e1,g1,g2⟩:=s1_2 hb H (lay (allI 0 l)) (lay (allI 1 l)) t (allI 0 l) (allI 1 l) (by omega) (by omega) w.f0 (P0++[y,w]) i x.f0 hi2 (body (allI 0 l) (allI 1 l) (some w) (some x) suf++z) (Z28 x.f1 (allI 0 l) (allI 1 l)) [] (Z28 w.f1 (allI 0 l) (allI 1 l)) (subR (Z28 w.f1 (allI 0 l) (allI 1 l)) (Z28 y.f1 (allI 0 l) (allI 1 l))) [] (a+(intB (x.f0-2*w.f0+y.f0)).length) 0 (by simpa using hrl) (by omega) (by omega) rfl rfl hru (by omega) (by rw[← List.drop_drop,h,List.drop_left]);rw[List.nil_append,List.nil_append,List.nil_append,List.nil_append] at e1;rw[e1,sb];dsimp only;rw[Zc (n:=x.f0-w.f0) (by omega) (by omega)];exact fin a1 _ _ (by rw[Za9 (by omega)];exact hrl) g1 (fun y' x' hy hx=>by cases hy;cases hx;exact⟨rfl,rfl⟩) g2
end Go.Proofs.YtinhldbfifpakaaGreat.PvGL3
namespace Go.Proofs.YtinhldbfifpakaaGreat.PvGL3
open Go Go.Pv Go.Pv.GS Go.IntKind
theorem end_l0 {b:List Int} (hb:Src b):∀ (f a:Nat),a+f=8*b.length→(Z0f b).drop a=List.replicate f false→∃ a':Int,Zx.l0 b (a:Int) 0=some (a',0):=by
 intro f;have hl:=hb.len
 induction f with
 | zero =>
  intro a ha h;unfold Zx.l0 Z11.f;rw[if_pos (by simp),sb,Zc (n:=(8:Int)*(b.length:Int)) (by omega) (by omega),Zc (by omega) (by omega),sb,if_neg (by simp;omega)];exact⟨_,rfl⟩
 | succ f ih =>
  intro a ha h;have hx:(Z0f b)[a]? = some false:=by
   have:=congrArg (fun l=>l[0]?) h;simpa[List.replicate_succ] using this
  have hn:(Z0f b).drop (a+1)=List.replicate f false:=by
   have:=congrArg List.tail h;rw[List.tail_drop,List.replicate_succ,List.tail_cons] at this;exact this
  unfold Zx.l0 Z11.f;rw[if_pos (by simp),sb,Zc (n:=(8:Int)*(b.length:Int)) (by omega) (by omega),Zc (by omega) (by omega),sb,if_pos (by simp;omega),Ze4 hb hx,sb];dsimp only;rw[if_neg (by simp),sb];exact ih (a+1) (by omega) hn
theorem end_ok {b:List Int} (hb:Src b) {a f:Nat} (hf:f<8) (ha:a≤8*b.length) (h:(Z0f b).drop a=List.replicate f false):∃ a':Int,Zx.f b (a:Int) 0=some (0,a',0):=by
 have hl:=hb.len;have l1:=congrArg List.length h;rw[List.length_drop,Z15,List.length_replicate] at l1;obtain⟨a',e⟩:=end_l0 hb f a (by omega) h;unfold Zx.f Z11.f;rw[if_pos (by simp),sb,Zc (n:=(8:Int)*(b.length:Int)) (by omega) (by omega),Zc (by omega) (by omega),sb,if_neg (by simp;omega),sb,e,sb];exact⟨a',rfl⟩
theorem end_long {b:List Int} (hb:Src b) {a:Nat} (h:a+8≤8*b.length):Zx.f b (a:Int) 0=some (6,(a:Int),6):=by
 have hl:=hb.len;unfold Zx.f Z11.f;rw[if_pos (by simp),sb,Zc (n:=(8:Int)*(b.length:Int)) (by omega) (by omega),Zc (by omega) (by omega),sb,if_pos (by simp;omega),rfail0,sb,sb,Zx.l0,if_neg (by simp),sb,if_neg (by simp),sb]
theorem eqloop {α:Type} [DecidableEq α] (a b:List α) (hl:a.length=b.length) (ha:a.length<1000000000000) (ne:α→α→Bool) (hne:∀ x y,ne x y = !decide (x=y)) (F:Int→Option (Bool ⊕ Unit))
  (hF:∀ i,F i=if(decide (i<(a.length:Int)))=true then((at? a i)>>=fun x=>(at? b i)>>=fun y=>if ne x y=true then(some (.inl false)) else F (i64.wrap (i+(1:Int)))) else(some (.inr ()))) :
  ∀ (sa pa sb' pb:List α) (i:Int),a=pa++sa→b=pb++sb'→pa.length=pb.length→i=(pa.length:Int)→F i=some (if sa=sb' then .inr () else .inl false):=by
 intro sa
 induction sa with
 | nil =>
  intro pa sb' pb i h1 h2 h3 hi;have e:sb'=[]:=by
   have l1:=congrArg List.length h1;have l2:=congrArg List.length h2;simp only[List.length_append,List.length_nil] at l1 l2;exact List.length_eq_zero_iff.1 (by omega)
  rw[hF,if_neg (by rw[h1];simp[hi]),e,if_pos rfl]
 | cons x sa ih =>
  intro pa sb' pb i h1 h2 h3 hi;have l1:=congrArg List.length h1;have l2:=congrArg List.length h2;simp only[List.length_append,List.length_cons] at l1 l2;cases sb' with
  | nil=>simp only[List.length_nil] at l2;omega
  | cons y sb' =>
   rw[hF,if_pos (by simp;omega),Z06 h1 hi,sb,Z06 h2 (by omega),sb,hne,Zc (by omega) (by omega)];by_cases c:x=y
   ·subst c
    rw[if_neg (by simp),ih (pa++[x]) sb' (pb++[x]) (i+1) (by simp[h1]) (by simp[h2]) (by simp[h3]) (by simp;omega)];by_cases c2:sa=sb'
    ·rw[if_pos c2,if_pos (by rw[c2])]
    ·rw[if_neg c2,if_neg (by simp[c2])]
   ·rw[if_pos (by simp[c]),if_neg (by simp[c])]
theorem bkt_ne (x y:Z2):(!((x.f0==y.f0)&&((x.f1==y.f1)&&true))) = !decide (x=y):=by
 obtain⟨a,b⟩:=x;obtain⟨c,d⟩:=y;by_cases h1:a=c<;>by_cases h2:b=d<;>simp[h1,h2]
theorem rsame_eq (a b:List Z2) (ha:a.length<1000000000000):Z46.f a b=some (decide (a=b)):=by
 unfold Z46.f;by_cases hl:a.length=b.length
 ·have L:=eqloop a b hl ha (fun x y => !((x.f0==y.f0)&&((x.f1==y.f1)&&true))) bkt_ne (       Z46.l0 a b) (fun i=>by rw[       Z46.l0]) a [] b [] 0 rfl rfl rfl rfl
  rw[if_neg (by simp;omega),L,sb];by_cases c:a=b
  ·rw[if_pos c,decide_eq_true c]
  ·rw[if_neg c,decide_eq_false c]
 ·rw[if_pos (by simp;omega),decide_eq_false (fun h=>hl (by rw[h]))]
theorem rSame_eq (a b:Zj) (h6:a.f6.length<1000000000000) (h7:a.f7.length<1000000000000):Z7x.f a b=some (decide (a=b)):=by
 unfold Z7x.f;rw[rsame_eq _ _ h6,rsame_eq _ _ h7];obtain⟨a0,a1,a2,a3,a4,a5,a6,a7⟩:=a;obtain⟨b0,b1,b2,b3,b4,b5,b6,b7⟩:=b;simp only[sb];by_cases c0:a0=b0
 case neg=>rw[if_neg (by simpa using c0),sb,decide_eq_false (by simp[c0])]
 by_cases c1:a1=b1
 case neg=>rw[if_pos (by simpa using c0),if_neg (by simpa using c1),sb,decide_eq_false (by simp[c1])]
 by_cases c2:a2=b2
 case neg=>rw[if_pos (by simpa using c0),if_pos (by simpa using c1),if_neg (by simpa using c2),sb,decide_eq_false (by simp[c2])]
 by_cases c3:a3=b3
 case neg=>rw[if_pos (by simpa using c0),if_pos (by simpa using c1),if_pos (by simpa using c2),if_neg (by simpa using c3),sb,decide_eq_false (by simp[c3])]
 by_cases c4:a4=b4
 case neg=>rw[if_pos (by simpa using c0),if_pos (by simpa using c1),if_pos (by simpa using c2),if_pos (by simpa using c3),if_neg (by simpa using c4),sb,decide_eq_false (by simp[c4])]
 by_cases c5:a5=b5
 case neg=>rw[if_pos (by simpa using c0),if_pos (by simpa using c1),if_pos (by simpa using c2),if_pos (by simpa using c3),if_pos (by simpa using c4),if_neg (by simpa using c5),sb,decide_eq_false (by simp[c5])]
 rw[if_pos (by simpa using c0),if_pos (by simpa using c1),if_pos (by simpa using c2),if_pos (by simpa using c3),if_pos (by simpa using c4),if_pos (by simpa using c5)];by_cases c6:a6=b6
 case neg=>rw[if_neg (by simpa using c6),sb,decide_eq_false (by simp[c6])]
 by_cases c7:a7=b7
 case neg=>rw[if_pos (by simpa using c6),decide_eq_false c7,sb,decide_eq_false (by simp[c7])]
 rw[if_pos (by simpa using c6),decide_eq_true c7,sb,decide_eq_true (by simp[c0,c1,c2,c3,c4,c5,c6,c7])]
theorem smp_l0' (a b:List Z7) (hl:a.length=b.length) (ha:a.length<1000000000000) (hs:∀ s∈a,s.f1.f6.length<1000000000000∧s.f1.f7.length<1000000000000) :
  ∀ (sa pa sb' pb:List Z7) (i:Int),a=pa++sa→b=pb++sb'→pa.length=pb.length→i=(pa.length:Int)→Z4g.l0 a b i=some (if sa=sb' then .inr () else .inl false):=by
 intro sa
 induction sa with
 | nil =>
  intro pa sb' pb i h1 h2 h3 hi;have e:sb'=[]:=by
   have l1:=congrArg List.length h1;have l2:=congrArg List.length h2;simp only[List.length_append,List.length_nil] at l1 l2;exact List.length_eq_zero_iff.1 (by omega)
  rw[Z4g.l0,if_neg (by rw[h1];simp[hi]),e,if_pos rfl]
 | cons x sa ih =>
  intro pa sb' pb i h1 h2 h3 hi;have l1:=congrArg List.length h1;have l2:=congrArg List.length h2;simp only[List.length_append,List.length_cons] at l1 l2;have hx:=hs x (by rw[h1];simp);cases sb' with
  | nil=>simp only[List.length_nil] at l2;omega
  | cons y sb' =>
   rw[Z4g.l0,if_pos (by simp;omega),Z06 h1 hi,sb,Z06 h2 (by omega),sb,rSame_eq _ _ hx.1 hx.2,sb,Zc (by omega) (by omega)];have e:((if(x.f0 != y.f0)=true then(some true) else(some (!decide (x.f1=y.f1)))):Option Bool)=some (!decide (x=y)):=by
    obtain⟨a,b⟩:=x;obtain⟨c,d⟩:=y;by_cases h1:a=c<;>by_cases h2:b=d<;>simp[h1,h2]
   rw[e,sb];by_cases c:x=y
   ·subst c
    rw[if_neg (by simp),ih (pa++[x]) sb' (pb++[x]) (i+1) (by simp[h1]) (by simp[h2]) (by simp[h3]) (by simp;omega)];by_cases c2:sa=sb'
    ·rw[if_pos c2,if_pos (by rw[c2])]
    ·rw[if_neg c2,if_neg (by simp[c2])]
   ·rw[if_pos (by simp[c]),if_neg (by simp[c])]
theorem same9_eq (a b:List Z7) (ha:a.length<1000000000000) (hs:∀ s∈a,s.f1.f6.length<1000000000000∧s.f1.f7.length<1000000000000):Z4g.f a b=some (decide (a=b)):=by
 unfold Z4g.f;by_cases hl:a.length=b.length
 ·rw[if_neg (by simp;omega),smp_l0' a b hl ha hs a [] b [] 0 rfl rfl rfl rfl,sb]
  by_cases c:a=b
  ·rw[if_pos c,decide_eq_true c]
  ·rw[if_neg c,decide_eq_false c]
 ·rw[if_pos (by simp;omega),decide_eq_false (fun h=>hl (by rw[h]))]
theorem byte_ne (x y:Int):(x != y) = !decide (x=y):=by
 by_cases h:x=y<;>simp[h]
theorem eqbytes (a b:List Int) (ha:a.length<1000000000000):Z0u.f a b=some (decide (a=b)):=by
 unfold Z0u.f;by_cases hl:a.length=b.length
 ·have L:=eqloop a b hl ha (fun x y=>x != y) byte_ne (                Z0u.l0 a b) (fun i=>by rw[                Z0u.l0]) a [] b [] 0 rfl rfl rfl rfl
  rw[if_neg (by simp;omega),L,sb];by_cases c:a=b
  ·rw[if_pos c,decide_eq_true c]
  ·rw[if_neg c,decide_eq_false c]
 ·rw[if_pos (by simp;omega),decide_eq_false (fun h=>hl (by rw[h]))]
variable {b:List Int}
structure HOk (h:Zj):Prop where
 fits:Fits h
 pos:h.f6.length≤512
 neg:h.f7.length≤512
theorem HOk.zero:HOk (⟨0,0,0,0,0,0,[],[]⟩:Zj):=⟨⟨by decide,by decide,by decide,by decide,by decide,by decide,by simp,by simp⟩,by simp,by simp⟩
theorem get_fwd (hb:Src b) {a k:Nat} {s z:List Bool} (hk:k≤64) (hs:s.length=k) (ha:a≤8*b.length) (h:(Z0f b).drop a=s++z):Zo.f b (a:Int) 0 (k:Int)=some (((val s:Nat):Int),((a+k:Nat):Int),0):=by
 have l1:=congrArg List.length h;simp only[List.length_drop,Z15,List.length_append] at l1;rcases get_spec hb hk ha with ⟨_,h2⟩ | ⟨h1,_⟩
 ·rw[h2,h,List.take_left' hs]
 ·omega
theorem dec_fwd (hb:Src b) {l:List Z7} (hc:COk l) (hne:l≠[]) (hk:∀ s∈l,HOk s.f1) (h0:Z2h.f l=some 0) (z:List Bool) (h:Z0f b=Z7n l++z) :
  (8≤z.length→Z4p.f b=some ([],6))∧(∀ f,f<8→z=List.replicate f false→Z4p.f b=some (l,0)):=by
 have hF:∀ s∈l,Fits s.f1:=fun s hs=>(hk s hs).fits
 obtain⟨iP,iN⟩:=hc.ids hF;have lP:=hc.pos;have lN:=hc.neg;have h32:=hc.len;have hbl:=hb.len;obtain⟨s,r,hl⟩:∃ s r,l=s::r:=by
  cases l with
  | nil=>exact absurd rfl hne
  | cons s r=>exact⟨s,r,rfl⟩
 have hs:=hc.ok s (by rw[hl];simp);have fs:=hF s (by rw[hl];simp);have hsch:=hs.1.schema;have hs1:=hsch.1;have hs2:=hsch.2;have hz:=hs.1.zero;have hkd:=hs.1.kind;have hcb:Z7n l=[s.f1.f0==1]++(nb (s.f1.f1+4).toNat 4++(intB s.f1.f2++(lyB (lay (allI 0 l))++(lyB (lay (allI 1 l))++(cnt2 (l.length-1)++body (allI 0 l) (allI 1 l) none none l))))):=by rw[hl];rfl
 have d0:Z0f b=[s.f1.f0==1]++(nb (s.f1.f1+4).toNat 4++(intB s.f1.f2++(lyB (lay (allI 0 l))++(lyB (lay (allI 1 l))++(cnt2 (l.length-1)++(body (allI 0 l) (allI 1 l) none none l++z)))))):=by
  rw[h,hcb];simp
 have lb:=congrArg List.length d0;simp only[Z15,List.length_append,Z5j,List.length_singleton] at lb;have x0:(Z0f b)[0]? = some (s.f1.f0==1):=by rw[d0];rfl
 have E1:=Ze4 hb x0;have d1:(Z0f b).drop 1=nb (s.f1.f1+4).toNat 4++(intB s.f1.f2++(lyB (lay (allI 0 l))++(lyB (lay (allI 1 l))++(cnt2 (l.length-1)++(body (allI 0 l) (allI 1 l) none none l++z))))):=by rw[d0];rfl
 have E2:=get_fwd hb (k:=4) (by omega) (Z5j _ _) (by omega) d1;rw[val_nb,Nat.mod_eq_of_lt (by omega)] at E2;have d2:(Z0f b).drop (1+4)=intB s.f1.f2++(lyB (lay (allI 0 l))++(lyB (lay (allI 1 l))++(cnt2 (l.length-1)++(body (allI 0 l) (allI 1 l) none none l++z)))):=by rw[← List.drop_drop,d1,List.drop_left' (Z5j _ _)]
 have E3:=Zeg hb (x:=s.f1.f2) (by omega) (by omega) d2;have d3:(Z0f b).drop (1+4+(intB s.f1.f2).length)=lyB (lay (allI 0 l))++(lyB (lay (allI 1 l))++(cnt2 (l.length-1)++(body (allI 0 l) (allI 1 l) none none l++z))):=by rw[← List.drop_drop,d2,List.drop_left]
 obtain⟨a4,E4,g4,d4⟩:=tk_fwd hb iP lP (by omega) _ d3;obtain⟨a5,E5,g5,d5⟩:=tk_fwd hb iN lN g4 _ d4;have E6:=Z4b hb (n:=l.length-1) (m:=31) (by omega) (by omega) g5 d5;have l5:=congrArg List.length d5;simp only[List.length_drop,Z15,List.length_append] at l5;have d6:(Z0f b).drop (a5+(cnt2 (l.length-1)).length)=body (allI 0 l) (allI 1 l) none none l++z:=by rw[← List.drop_drop,d5,List.drop_left]
 have hll:1≤l.length:=by rw[hl];simp
 have hK:((if(s.f1.f0==1)=true then(some 1) else(some 0)):Option (Int))=some s.f1.f0:=by
  rcases hkd with e | e<;>rw[e]<;>rfl
 have hsc:i64.wrap ((i64.wrap (((s.f1.f1+4).toNat:Nat):Int))+(-4))=s.f1.f1:=by
  rw[Zc (n:=(((s.f1.f1+4).toNat:Nat):Int)) (by omega) (by omega),Zc (by omega) (by omega)];omega
 have hat:((if(decide (s.f1.f2<(-524288)))=true then(some true) else(some (decide (s.f1.f2>(262144:Int))))):Option (Bool))=some false:=by
  rw[if_neg (by simp;omega)];simp;omega
 obtain⟨a7,E7,g7,d7⟩:=smp_l0 hb hc hF (⟨s.f1.f0,s.f1.f1,s.f1.f2,0,0,0,[],[]⟩:Zj) (fun x hx=>hc.head s (by rw[hl];simp) x hx) (((l.length-1:Nat):Int),((a5+(cnt2 (l.length-1)).length:Nat):Int),0) (by dsimp only;omega) z l [] none none (List.replicate (Int.toNat ((2+(allI 0 l).length+(allI 1 l).length:Nat):Int)) 0) (List.replicate (Int.toNat ((2+(allI 0 l).length+(allI 1 l).length:Nat):Int)) 0) 0 0 (a5+(cnt2 (l.length-1)).length) 0 rfl rfl (.inl ⟨rfl,rfl,rfl⟩) (by rw[List.length_replicate,Int.toNat_natCast]) (by rw[List.length_replicate,Int.toNat_natCast]) (fun x hx=>by cases hx) (fun y x hy=>by cases hy) (fun _=>rfl) (by omega) d6;have ES:Zy.f b (a5:Int) 0 (⟨s.f1.f0,s.f1.f1,s.f1.f2,0,0,0,[],[]⟩:Zj) (lay (allI 0 l)) (lay (allI 1 l))=some (l,(a7:Int),0):=by
  unfold Zy.f;rw[show Za.f b (a5:Int) 0 31=_ from E6,sb,Z9h iP.sm (by omega),sb,Z9h iN.sm (by omega),sb,Zau (by omega) (by omega),chkB (by omega)];dsimp only;rw[E7,sb]
 have l7:=congrArg List.length d7;rw[List.length_drop,Z15] at l7;have pre:Z4p.f b=((Zx.f b (a7:Int) 0)>>=fun t3478=>if(t3478.1 != (0:Int))=true then(some ([],6)) else((Z0b.f l)>>=fun t3483=>((if(t3483.2 != (0:Int))=true then(some true) else((Z0u.f t3483.1 b)>>=fun t3521=>some (!t3521))):Option (Bool))>>=fun x3523=>if x3523=true then(some ([],6)) else(some (l,0)))):=by
  unfold Z4p.f Z5a.f;rw[sb,show Z0k.f b 0 0=_ from E1,sb];dsimp only;rw[hK,sb,show Zo.f b ((0+1:Nat):Int) 0 4=_ from E2,sb];dsimp only;rw[E3,sb];dsimp only;rw[hat,sb,if_neg (by simp),E4,sb];dsimp only;rw[E5,sb];dsimp only;rw[hsc,ES,sb]
 constructor
 ·intro h8
  rw[pre,end_long hb (by omega),sb,if_pos (by simp)]
 ·intro f hf hzf
  rw[hzf] at d7;obtain⟨a',E⟩:=end_ok hb hf g7 d7;obtain⟨y,f',EY,hY⟩:=enc_eq hc hne hF h0;have hY2:Laid b f (Z7n l):=⟨hb.byte,hf,by rw[h,hzf]⟩
  have:=hY.unique hY2;subst this;rw[pre,E,sb,if_neg (by simp),EY,sb,if_neg (by simp),eqbytes y y (by omega),sb,sb,if_neg (by simp)]
end Go.Proofs.YtinhldbfifpakaaGreat.PvGL3
namespace Go.Proofs.YtinhldbfifpakaaGreat.PvGL3
open Go Go.Pv Go.Pv.GS Go.IntKind
def by8 (l:List Int):List Bool:=l.flatMap fun n=>nb n.toNat 8
theorem by8_len (l:List Int):(by8 l).length=8*l.length:=by
 induction l with
 | nil=>rfl
 | cons x l ih=>simp only[by8,List.flatMap_cons,List.length_append,Z5j,List.length_cons] at ih ⊢;omega
def Z6n (t:ByteArray):List Bool:=cnt2 t.size++by8 (Z5g t)
theorem Z79 (t:ByteArray):(Z5g t).length=t.size:=by simp only[Z5g,List.length_map,Array.length_toList];rfl
theorem Zb8 (t:ByteArray):∀ n∈Z5g t,0≤n∧n<256:=by
 intro n hn;obtain⟨c,_,rfl⟩:=List.mem_map.1 hn;have:=c.toNat_lt;omega
theorem bytesL_bt {t:ByteArray} {i:Nat} {x:Int} (h:(Z5g t)[i]? = some x):bt t (i:Int)=x:=by
 unfold Z5g at h;rw[List.getElem?_map,Array.getElem?_toList] at h;unfold bt;rw[Int.toNat_natCast];cases e:t.data[i]? with
 | none=>rw[e] at h;simp at h
 | some c=>rw[e] at h;simpa using h
theorem strOf_bytesL (t:ByteArray):Z80 (Z5g t)=t:=by
 rw[strOf_eq];have:toB (Z5g t)=t.data.toList:=by
  unfold toB Z5g;rw[List.map_map]
  conv=>rhs;rw[← List.map_id t.data.toList]
  apply List.map_congr_left;intro c _;simp
 rw[this]
theorem Zd6 {x:List Int} (h:∀ n∈x,0≤n∧n<256):Z5g (Z80 x)=x:=by
 rw[strOf_eq];unfold Z5g toB;simp only[List.map_map]
 conv=>rhs;rw[← List.map_id x]
 apply List.map_congr_left;intro n hn;have:=h n hn;simp;omega
theorem text_l0 (t:ByteArray) (ht:t.size≤2000000):∀ (suf pre:List Int) (b:List Int) (f:Nat) (s:List Bool) (i:Int),Z5g t=pre++suf→i=(pre.length:Int)→s.length+8*suf.length<800000000000→Laid b f s →
  ∃ (b':List Int) (f':Nat),Z1y.l0 t b (f:Int) i=some (b',(f':Int))∧Laid b' f' (s++by8 suf):=by
 intro suf
 induction suf with
 | nil =>
  intro pre b f s i h1 hi _ hL;have:=Z79 t;rw[h1] at this;refine⟨b,f,?_,by simpa[by8] using hL⟩;rw[Z1y.l0,if_neg (by simp at this;simp;omega)]
 | cons x suf ih =>
  intro pre b f s i h1 hi hs hL;have hlen:=Z79 t;rw[h1] at hlen;simp only[List.length_append,List.length_cons] at hlen hs;have hx:=Zb8 t x (by rw[h1];simp);have hb:bt t i=x:=by rw[hi];exact bytesL_bt (by rw[h1];simp)
  obtain⟨b1,f1,e1,h2⟩:=wput hL (by omega) (n:=x) (by omega) (by omega) (k:=8) (by omega);rw[Z1y.l0,if_pos (by simp;omega),chkB (by omega),hb,Z39 (by omega) (by omega),show(8:Int)=((8:Nat):Int) from rfl,e1,sb,Zc (n:=i+1) (by omega) (by omega)];obtain⟨b2,f2,e2,h3⟩:=ih (pre++[x]) b1 f1 _ (i+1) (by simp[h1]) (by simp;omega) (by rw[List.length_append,Z5j];omega) h2;refine⟨b2,f2,e2,?_⟩;simpa[by8] using h3
theorem text_eq {b:List Int} {f:Nat} {s:List Bool} (h:Laid b f s) (t:ByteArray) (ht:t.size≤2000000) (hl:s.length<700000000000) :
  ∃ (b':List Int) (f':Nat),Z1y.f b (f:Int) t=some (b',(f':Int))∧Laid b' f' (s++Z6n t):=by
 unfold Z1y.f;obtain⟨b1,f1,e1,h1⟩:=Z6p h (by omega) (n:=(t.size:Int)) (by omega) (by omega);rw[Z39 (by omega) (by omega),e1,sb];rw[Int.toNat_natCast] at h1;have:=Z12 t.size;have hb:=Z79 t;obtain⟨b2,f2,e2,h2⟩:=text_l0 t ht (Z5g t) [] b1 f1 _ 0 rfl rfl (by rw[List.length_append];omega) h1;rw[e2,sb];exact⟨b2,f2,rfl,by rw[Z6n,← List.append_assoc];exact h2⟩
theorem u8w {v:Int} (h0:0≤v) (h1:v<256):u8.wrap v=v:=by
 simp only[IntKind.wrap,IntKind.signed,IntKind.bits];simp;omega
theorem rep_set {n i:Nat} (h:i<n) (p:List Int) (hp:p.length=i) (y:Int):(p++List.replicate (n-i) (0:Int)).set (Int.toNat (i:Int)) y=(p++[y])++List.replicate (n-(i+1)) (0:Int):=by
 rw[show n-i=(n-(i+1))+1 from by omega,List.replicate_succ];exact(Z9t p 0 y _ (by omega)).trans (by simp)
variable {b:List Int}
theorem tk_fwd_l0 (hb:Src b) (t:Int×Int×Int) (n:Nat) (hn:n≤1048576) (ht:t.1=(n:Int)) (z:List Bool):∀ (suf pre:List Int) (a:Nat) (i:Int),pre.length+suf.length=n→i=(pre.length:Int)→(∀ x∈suf,0≤x∧x<256)→a≤8*b.length→(Z0f b).drop a=by8 suf++z →
  Z1l.l0 b t (a:Int) 0 (pre++List.replicate (n-pre.length) (0:Int)) i=some (pre++suf,((a+8*suf.length:Nat):Int),0):=by
 intro suf
 induction suf with
 | nil =>
  intro pre a i h1 hi _ _ _;simp only[List.length_nil,Nat.add_zero] at h1;rw[Z1l.l0,if_neg (by rw[ht];simp;omega),show n-pre.length=0 from by omega];simp
 | cons x suf ih =>
  intro pre a i h1 hi hx ha hd;simp only[List.length_cons] at h1;have hx0:=hx x (by simp);have hd2:(Z0f b).drop a=nb x.toNat 8++(by8 suf++z):=by rw[hd];simp[by8]
  have hget:=get_fwd hb (k:=8) (by omega) (Z5j x.toNat 8) ha hd2;rw[val_nb,Nat.mod_eq_of_lt (by omega)] at hget;have l1:=congrArg List.length hd2;simp only[List.length_drop,Z15,List.length_append,Z5j] at l1;have hd3:(Z0f b).drop (a+8)=by8 suf++z:=by
   rw[← List.drop_drop,hd2,List.drop_left' (Z5j ..)]
  rw[Z1l.l0,if_pos (by rw[ht];simp;omega),show(8:Int)=((8:Nat):Int) from rfl,hget,sb];rw[show at? (pre++List.replicate (n-pre.length) (0:Int)) i=some 0 from by
   rw[show n-pre.length=(n-(pre.length+1))+1 from by omega,List.replicate_succ];exact Z7s pre 0 _ hi,sb]
  dsimp only;rw[hi,rep_set (by omega) pre rfl,Zc (n:=(pre.length:Int)+1) (by omega) (by omega)];have hw:u8.wrap ((x.toNat:Nat):Int)=x:=by rw[show((x.toNat:Nat):Int)=x from by omega];exact u8w (by omega) (by omega)
  rw[hw];have:=ih (pre++[x]) (a+8) ((pre.length:Int)+1) (by simp;omega) (by simp) (fun y hy=>hx y (by simp[hy])) (by omega) hd3;simp only[List.length_append,List.length_singleton] at this;rw[this];simp only[List.append_assoc,List.singleton_append,List.length_cons];congr 4;omega
theorem left_ok (a e:Int):Z11.f b a e=some ():=rfl
theorem taken_fwd (hb:Src b) {t:ByteArray} (ht:t.size≤1048576) {a:Nat} {z:List Bool} (ha:a≤8*b.length) (h:(Z0f b).drop a=Z6n t++z) :
  Z1l.f b (a:Int) 0=some (t,((a+(Z6n t).length:Nat):Int),0):=by
 have hbl:=Z79 t;have h1:(Z0f b).drop a=cnt2 t.size++(by8 (Z5g t)++z):=by rw[h,Z6n,List.append_assoc]
 have hlen:=congrArg List.length h1;simp only[List.length_drop,Z15,List.length_append,by8_len] at hlen;have h2:(Z0f b).drop (a+(cnt2 t.size).length)=by8 (Z5g t)++z:=by rw[← List.drop_drop,h1,List.drop_left' rfl]
 have hB:=hb.len;unfold Z1l.f;rw[show(1048576:Int)=((1048576:Nat):Int) from rfl,Z4b hb ht (by omega) ha h1,sb];dsimp only;rw[left_ok,sb,Zc (n:=8*(b.length:Int)) (by omega) (by omega),Zc (n:=8*(b.length:Int)-_) (by omega) (by omega)];have hdiv:(8*(b.length:Int)-((a+(cnt2 t.size).length:Nat):Int)).tdiv 8=(((8*b.length-(a+(cnt2 t.size).length)) / 8:Nat):Int):=by
  rw[show 8*(b.length:Int)-((a+(cnt2 t.size).length:Nat):Int)=((8*b.length-(a+(cnt2 t.size).length):Nat):Int) from by omega];exact(Int.ofNat_tdiv _ 8).symm
 rw[hdiv,Zc (by omega) (by omega),if_neg (by simp;omega),chkB (by omega),Int.toNat_natCast];have:=tk_fwd_l0 hb ((t.size:Int),((a+(cnt2 t.size).length:Nat):Int),0) t.size ht rfl z (Z5g t) [] (a+(cnt2 t.size).length) 0 (by simpa using hbl) rfl (Zb8 t) (by omega) h2;simp only[List.nil_append,List.length_nil,Nat.sub_zero] at this;rw[this,sb];dsimp only;rw[strOf_bytesL];congr 4;rw[Z6n,List.length_append,by8_len];omega
end Go.Proofs.YtinhldbfifpakaaGreat.PvGL3
namespace Go.Proofs.YtinhldbfifpakaaGreat.PvGL3
open Go Go.Pv Go.Pv.GS Go.IntKind
theorem laid_src {x:List Int} {f:Nat} {l:List Z7} (h:Laid x f (Z7n l)) (hc:COk l) (hk:∀ s∈l,HOk s.f1):Src x∧x.length≤400000:=by
 have h1:=h.len;have h2:=h.lt;have h3:=Zcs hc (fun s hs=>(hk s hs).fits);exact⟨⟨h.byte,by omega⟩,by omega⟩
def Z8q (l:List Z7):Prop:=∀ pre s suf,l=pre++s::suf→Z25.f pre s=some true
theorem fits_nil (s:Z7):Z25.f [] s=some true:=by unfold Z25.f;rw[if_pos (by simp)]
theorem Z8q.one (s:Z7):Z8q [s]:=by
 intro pre x suf h;cases pre with
 | nil=>exact fits_nil x
 | cons y r=>simp at h
theorem Z8q.pre {a b:List Z7} (h:Z8q (a++b)):Z8q a:=fun pre s suf e=>h pre s (suf++b) (by rw[e];simp)
theorem Z8q.snoc {a:List Z7} {s:Z7} (h:Z8q a) (hs:Z25.f a s=some true):Z8q (a++[s]):=by
 intro pre x suf e;rcases List.eq_nil_or_concat suf with rfl | ⟨S,y,rfl⟩
 ·obtain⟨rfl,e2⟩:=List.append_inj' e rfl
  simp at e2;subst e2;exact hs
 ·rw[List.concat_eq_append] at e
  have e3:a++[s]=(pre++x::S)++[y]:=by rw[e];simp
  obtain⟨rfl,_⟩:=List.append_inj' e3 rfl;exact h pre x S rfl
structure SOk (s:Z7):Prop where
 v:Z2u s.f1
 f:Fits s.f1
 t:0≤s.f0∧s.f0≤1099511627776
theorem tst (x:Int):((if(decide (x<(0:Int)))=true then(some true) else(some (decide (x>(1099511627776:Int))))):Option (Bool))=some (!decide (0≤x∧x≤1099511627776)):=by
 by_cases c:x<0
 ·rw[if_pos (by simpa using c),decide_eq_false (by omega)];rfl
 ·rw[if_neg (by simpa using c)]
  by_cases c2:x>1099511627776
  ·rw[decide_eq_true c2,decide_eq_false (by omega)];rfl
  ·rw[decide_eq_false c2,decide_eq_true (by omega)];rfl
theorem check0 {s:Z7} (h:SOk s):Z0r.f s.f1=some 0:=by
 obtain⟨r,e1,e3⟩:=check_any s.f1 h.f;rw[e1,e3.2 h.v]
open Classical in
theorem grow_l0 (l:List Z7) (hl:l.length≤900) (hk:∀ s∈l,SOk s):∀ (suf pre:List Z7) (i:Int),l=pre++suf→i=(pre.length:Int) →
  Z2h.l0 l i=some (if ∀ p s q,suf=p++s::q→Z25.f (pre++p) s=some true then .inr () else .inl 6):=by
 intro suf
 induction suf with
 | nil =>
  intro pre i h1 hi;rw[Z2h.l0,if_neg (by rw[h1];simp[hi]),if_pos (fun p s q h=>by simp at h)]
 | cons s suf ih =>
  intro pre i h1 hi;have hlen:l.length=pre.length+(suf.length+1):=by rw[h1];simp
  have hs:=hk s (by rw[h1];simp);have hb:¬ ((!decide (0≤s.f0∧s.f0≤1099511627776))=true):=by rw[decide_eq_true hs.t];decide
  obtain⟨r,f1,_⟩:=fits_p pre s (by omega) (fun x hx=>by
   have:x∈l:=by rw[h1];rcases List.mem_append.1 hx with hx | hx;exact List.mem_append_left _ hx;simp at hx;subst hx;simp
   exact⟨(hk x this).v,(hk x this).f⟩) hs.t
  rw[Z2h.l0,if_pos (by simp;omega),Z06 h1 hi,sb,tst,sb,if_neg hb,check0 hs,sb,if_neg (by simp),chkB (by omega),take_pre h1 hi,Zc (n:=i+1) (by omega) (by omega),f1,sb];cases r with
  | false =>
   rw[if_pos (show(!false)=true from rfl),if_neg];intro h;have:=h [] s suf rfl;rw[List.append_nil,f1] at this;simp at this
  | true =>
   rw[if_neg (show ¬ ((!true)=true) by simp),ih (pre++[s]) (i+1) (by simp[h1]) (by simp;omega)];congr 1;by_cases c:∀ p x q,suf=p++x::q→Z25.f (pre++[s]++p) x=some true
   ·rw[if_pos c,if_pos]
    intro p x q e;cases p with
    | nil=>simp at e;obtain⟨rfl,rfl⟩:=e;rw[List.append_nil];exact f1
    | cons y p=>simp at e;obtain⟨rfl,rfl⟩:=e;have:=c p x q rfl;simpa using this
   ·rw[if_neg c,if_neg]
    intro h;refine c (fun p x q e => ?_);have:=h (s::p) x q (by rw[e];rfl);simpa using this
open Classical in
theorem grow_chk (l:List Z7) (hl:l.length≤900) (hne:l≠[]) (hk:∀ s∈l,SOk s):Z2h.f l=some (if Z8q l then 0 else 6):=by
 have hn:¬ (((l.length:Int)==0)=true):=by
  have:l.length≠0:=fun h=>hne (List.length_eq_zero_iff.1 h);simp;omega
 unfold Z2h.f;rw[if_neg hn,grow_l0 l hl hk l [] 0 rfl rfl,sb];have e:(∀ p s q,l=p++s::q→Z25.f ([]++p) s=some true)↔Z8q l:=by simp[Z8q]
 by_cases h:Z8q l
 ·rw[if_pos (e.2 h),if_pos h]
 ·rw[if_neg (fun x=>h (e.1 x)),if_neg h]
structure CutOK (C:List (List Z7)):Prop where
 ne:∀ c∈C,c≠[]∧Z8q c
 gap:∀ i c c',C[i]? = some c→C[i+1]? = some c'→∃ s r,c'=s::r∧Z25.f c s=some false
theorem flat_len {C:List (List Z7)} (h:∀ c∈C,c≠[]):C.length≤C.flatten.length:=by
 induction C with
 | nil=>simp
 | cons c C ih =>
  have h1:=ih (fun x hx=>h x (by simp[hx]));have h2:=List.length_pos_iff.2 (h c (by simp));simp only[List.flatten_cons,List.length_append,List.length_cons];omega
theorem CutOK.last {D:List (List Z7)} {c c2:List Z7} {s:Z7} {r:List Z7} (h:CutOK (D++[c])) (hc:c=s::r) (hc2:∃ r2,c2=s::r2) (g:Z8q c2):CutOK (D++[c2]):=by
 obtain⟨r2,rfl⟩:=hc2;refine⟨fun x hx => ?_,fun i x x' h1 h2 => ?_⟩
 ·rcases List.mem_append.1 hx with hx | hx
  ·exact h.ne x (by simp[hx])
  ·simp at hx;subst hx;exact⟨by simp,g⟩
 ·by_cases hi:i+1<D.length
  ·rw[List.getElem?_append_left (by omega)] at h1 h2
   exact h.gap i x x' (by rw[List.getElem?_append_left (by omega)];exact h1) (by rw[List.getElem?_append_left (by omega)];exact h2)
  ·rw[List.getElem?_append_right (by omega)] at h2
   obtain⟨h3,h4⟩:=List.getElem?_eq_some_iff.1 h2;simp only[List.length_singleton] at h3;have e:i+1=D.length:=by omega
   rw[List.getElem?_append_left (by omega)] at h1;obtain⟨s',r',e1,e2⟩:=h.gap i x c (by rw[List.getElem?_append_left (by omega)];exact h1) (by rw[List.getElem?_append_right (by omega),e];simp);rw[hc] at e1;obtain⟨rfl,rfl⟩:=List.cons.inj e1;refine⟨s,r2,?_,e2⟩;rw[← h4];simp[e]
theorem CutOK.snoc {D:List (List Z7)} {c:List Z7} {s:Z7} (h:CutOK (D++[c])) (hs:Z25.f c s=some false):CutOK (D++[c]++[[s]]):=by
 refine⟨fun x hx => ?_,fun i x x' h1 h2 => ?_⟩
 ·rcases List.mem_append.1 hx with hx | hx
  ·exact h.ne x hx
  ·simp at hx;subst hx;exact⟨by simp,Z8q.one s⟩
 ·by_cases hi:i+1<(D++[c]).length
  ·rw[List.getElem?_append_left (by omega)] at h1 h2
   exact h.gap i x x' h1 h2
  ·rw[List.getElem?_append_right (by omega)] at h2
   obtain⟨h3,h4⟩:=List.getElem?_eq_some_iff.1 h2;simp only[List.length_singleton] at h3;have e:i=D.length:=by simp at hi h3;omega
   rw[List.getElem?_append_left (by simp;omega),e,List.getElem?_append_right (by omega)] at h1;simp at h1;subst h1;refine⟨s,[],?_,hs⟩;rw[← h4];simp[e]
theorem awake15:Z3z.f=some true:=by cbv
def Z4y (t:Int):Bool:=decide (0≤t∧t≤1099511627776)
open Classical in
noncomputable def sok (s:Z7):Bool:=Z4y s.f0&&decide (Z2u s.f1)
def aft (p:Option Z7) (s:Z7):Bool:=match p with
 | none=>true
 | some q=>decide (q.f0<s.f0)
noncomputable def good (p:Option Z7) (s:Z7):Bool:=sok s&&aft p s
noncomputable def rise:Option Z7→List Z7→Bool
 | _,[]=>true
 | p,s::l=>good p s&&rise (some s) l
def lst:Option Z7→List Z7→Option Z7
 | p,[]=>p
 | _,s::l=>lst (some s) l
theorem lst_app (a b:List Z7):∀ p,lst p (a++b)=lst (lst p a) b:=by
 induction a with
 | nil=>intro p;rfl
 | cons s a ih=>intro p;exact ih _
theorem Zdn (a:List Z7) (s:Z7) (p:Option Z7):lst p (a++[s])=some s:=by rw[lst_app];rfl
def flow (b:Bool):Bool ⊕ Unit:=match b with
 | true=>.inr ()
 | false=>.inl false
theorem ris_step (s:Z7) (hf:Fits s.f1) {l pre suf:List Z7} {i:Int} (h1:l=pre++s::suf) (hi:i=(pre.length:Int)) (hl:l.length<1000000000000000) :
  ((if(decide (s.f0<(0:Int)))=true then(some true) else(if(decide (s.f0>(1099511627776:Int)))=true then(some true) else((Z0r.f s.f1)>>=fun t508=>if(t508 != (0:Int))=true then(some true) else(if(decide (i>(0:Int)))=true then((at? l (i64.wrap (i-(1:Int))))>>=fun b512=>some (decide (b512.f0≥s.f0))) else(some false))))):Option (Bool))=some (!good (lst none pre) s):=by
 have hlen:l.length=pre.length+(suf.length+1):=by rw[h1];simp
 by_cases t0:s.f0<0
 ·rw[if_pos (decide_eq_true t0)]
  have:Z4y s.f0=false:=decide_eq_false (by omega);simp[good,sok,this]
 rw[if_neg (by simpa using t0)];by_cases t1:s.f0>1099511627776
 ·rw[if_pos (decide_eq_true t1)]
  have:Z4y s.f0=false:=decide_eq_false (by omega);simp[good,sok,this]
 rw[if_neg (by simpa using t1)];have ht:Z4y s.f0=true:=decide_eq_true (by omega);obtain⟨e,e1,e3⟩:=check_any s.f1 hf;rw[e1,sb];by_cases he:e=0
 case neg =>
  rw[if_pos (by simpa using he)];have:¬ Z2u s.f1:=fun h=>he (e3.2 h);simp[good,sok,this]
 rw[if_neg (by simpa using he)];have hv:=e3.1 he;rcases List.eq_nil_or_concat pre with rfl | ⟨Q,q,rfl⟩
 ·rw[if_neg (by simp[hi])]
  simp[good,sok,ht,hv,lst,aft]
 ·rw[List.concat_eq_append] at *
  have hi3:i=(Q.length:Int)+1:=by rw[hi];simp
  simp only[List.length_append,List.length_singleton] at hlen;rw[if_pos (decide_eq_true (by omega)),Zc (n:=i-1) (by omega) (by omega)];rw[show at? l (i-1)=some q from Z06 (pre:=Q) (suf:=s::suf) (by rw[h1];simp) (by omega),sb,Zdn];simp only[good,sok,ht,hv,aft,Bool.true_and,decide_true];congr 1;by_cases c:q.f0<s.f0
  ·rw[decide_eq_false (by omega),decide_eq_true c];rfl
  ·rw[decide_eq_true (by omega),decide_eq_false c];rfl
theorem ris_l0 (l:List Z7) (hl:l.length<1000000000000000) (hf:∀ s∈l,Fits s.f1):∀ (suf pre:List Z7) (i:Int),l=pre++suf→i=(pre.length:Int)→Z1h.l0 l i=some (flow (rise (lst none pre) suf)):=by
 intro suf
 induction suf with
 | nil=>intro pre i h1 hi;rw[Z1h.l0,if_neg (by rw[h1];simp[hi])];rfl
 | cons s suf ih =>
  intro pre i h1 hi;have hlen:l.length=pre.length+(suf.length+1):=by rw[h1];simp
  have hst:=ris_step s (hf s (by rw[h1];simp)) h1 hi hl;have hr:rise (lst none pre) (s::suf)=(good (lst none pre) s&&rise (some s) suf):=rfl;rw[hr];cases g:good (lst none pre) s with
  | false =>
   rw[g] at hst;rw[Z1h.l0,if_pos (by simp;omega),Z06 h1 hi,sb,hst,sb,if_pos (show(!false)=true from rfl)];rfl
  | true =>
   rw[g] at hst;rw[Z1h.l0,if_pos (by simp;omega),Z06 h1 hi,sb,hst,sb,if_neg (show ¬ (!true)=true by simp),Zc (n:=i+1) (by omega) (by omega),ih (pre++[s]) (i+1) (by simp[h1]) (by simp;omega),Zdn,Bool.true_and]
theorem ris_eq (l:List Z7) (hl:l.length<1000000000000000) (hf:∀ s∈l,Fits s.f1):Z1h.f l=some (rise none l):=by
 unfold Z1h.f;rw[ris_l0 l hl hf l [] 0 rfl rfl,sb];show(match flow (rise none l) with | .inl rr=>(some rr) | .inr _=>(some true))=some (rise none l);obtain⟨b,hb⟩:∃ b,rise none l=b:=⟨_,rfl⟩
 rw[hb];cases b<;>rfl
theorem rtime (t:Int):Z2a.f t=some (Z4y t):=by
 unfold Z2a.f Z4y;by_cases h:t≥0
 ·rw[if_pos (decide_eq_true h),sb];congr 1;apply Bool.eq_iff_iff.2;simp;omega
 ·rw[if_neg (by simpa using h),sb];congr 1;rw[decide_eq_false (by omega)]
theorem rris_l0 (l:List Z7) (hl:l.length<1000000000000000) (hf:∀ s∈l,Fits s.f1∧s.f1.f6.length<1000000000000000∧s.f1.f7.length<1000000000000000):∀ (suf pre:List Z7) (i:Int),l=pre++suf→i=(pre.length:Int)→Z2b.l0 l i=some (flow (rise (lst none pre) suf)):=by
 intro suf
 induction suf with
 | nil=>intro pre i h1 hi;rw[Z2b.l0,if_neg (by rw[h1];simp[hi])];rfl
 | cons s suf ih =>
  intro pre i h1 hi;have hlen:l.length=pre.length+(suf.length+1):=by rw[h1];simp
  have hs:=hf s (by rw[h1];simp);have step:((((at? l i)>>=fun b6847=>(Z2a.f b6847.f0)>>=fun t6850=>if(!t6850)=true then(some true) else((Z0g.f b6847.f1)>>=fun t6853=>if(t6853 != (0:Int))=true then(some true) else(if(decide (i>(0:Int)))=true then((at? l (i64.wrap (i-(1:Int))))>>=fun b6857=>some (decide (b6847.f0≤b6857.f0))) else(some false)))):Option (Bool)))=some (!good (lst none pre) s):=by
   rw[Z06 h1 hi,sb,rtime,sb];cases ht:Z4y s.f0 with
   | false=>rw[if_pos (show(!false)=true from rfl)];simp[good,sok,ht]
   | true =>
    rw[if_neg (by simp)];obtain⟨e,_,e1,e3⟩:=check_same s.f1 hs.1 hs.2.1 hs.2.2;rw[e1,sb];by_cases he:e=0
    case neg =>
     rw[if_pos (by simpa using he)];have:¬ Z2u s.f1:=fun h=>he (e3.2 h);simp[good,sok,this]
    rw[if_neg (by simpa using he)];have hv:=e3.1 he;rcases List.eq_nil_or_concat pre with rfl | ⟨Q,q,rfl⟩
    ·rw[if_neg (by simp[hi])]
     simp[good,sok,ht,hv,lst,aft]
    ·rw[List.concat_eq_append] at *
     have hi3:i=(Q.length:Int)+1:=by rw[hi];simp
     simp only[List.length_append,List.length_singleton] at hlen;rw[if_pos (decide_eq_true (by omega)),Zc (n:=i-1) (by omega) (by omega)];rw[show at? l (i-1)=some q from Z06 (pre:=Q) (suf:=s::suf) (by rw[h1];simp) (by omega),sb,Zdn];simp only[good,sok,ht,hv,aft,Bool.true_and,decide_true];congr 1;by_cases c:q.f0<s.f0
     ·rw[decide_eq_false (by omega),decide_eq_true c];rfl
     ·rw[decide_eq_true (by omega),decide_eq_false c];rfl
  have hst:=step;have hr:rise (lst none pre) (s::suf)=(good (lst none pre) s&&rise (some s) suf):=rfl;rw[hr];cases g:good (lst none pre) s with
  | false =>
   rw[g] at hst;rw[Z2b.l0,if_pos (by simp;omega),hst,sb,if_pos (show(!false)=true from rfl)];rfl
  | true =>
   rw[g] at hst;rw[Z2b.l0,if_pos (by simp;omega),hst,sb,if_neg (show ¬ (!true)=true by simp),Zc (n:=i+1) (by omega) (by omega),ih (pre++[s]) (i+1) (by simp[h1]) (by simp;omega),Zdn,Bool.true_and]
theorem rris_eq (l:List Z7) (hl:l.length<1000000000000000) (hf:∀ s∈l,Fits s.f1∧s.f1.f6.length<1000000000000000∧s.f1.f7.length<1000000000000000):Z2b.f l=some (rise none l):=by
 unfold Z2b.f;rw[rris_l0 l hl hf l [] 0 rfl rfl,sb];show(match flow (rise none l) with | .inl rr=>(some rr) | .inr _=>(some true))=some (rise none l);obtain⟨b,hb⟩:∃ b,rise none l=b:=⟨_,rfl⟩
 rw[hb];cases b<;>rfl
theorem sok_inv {s:Z7} (hf:Fits s.f1) (h:sok s=true):SOk s:=by
 unfold sok Z4y at h;simp only[Bool.and_eq_true,decide_eq_true_eq] at h;exact⟨h.2,hf,h.1⟩
theorem SOk.cok {s:Z7} (h:SOk s):COk [s]:=fit_nil s h.v h.t
theorem SOk.hok {s:Z7} (h:SOk s):HOk s.f1:=⟨h.f,h.v.pos.len,h.v.neg.len⟩
def encX (l:List Z7):List Int:=((Z0b.f l).getD ([],0)).1
theorem encX_eq {l:List Z7} (hc:COk l) (hne:l≠[]) (hk:∀ s∈l,HOk s.f1) (h0:Z2h.f l=some 0):Z0b.f l=some (encX l,0)∧(∃ f,Laid (encX l) f (Z7n l))∧(encX l).length≤400000:=by
 obtain⟨x,f,e,h⟩:=enc_eq hc hne (fun s hs=>(hk s hs).fits) h0;have hx:encX l=x:=by unfold encX;rw[e];rfl
 rw[hx];exact⟨e,⟨f,h⟩,(laid_src h hc hk).2⟩
theorem Zfe {x:List Int} {f:Nat} {s:List Bool} (h:Laid x f s):∀ n∈x,0≤n∧n<256:=fun n hn=>h.byte n hn
variable {b:List Int}
theorem err_ok (a e:Int):Zw.f b a e=some ():=rfl
theorem smp_src {x:List Int} {f:Nat} {l:List Z7} (h:Laid x f (Z7n l)) (hl:x.length≤400000):Src x:=⟨h.byte,by omega⟩
end Go.Proofs.YtinhldbfifpakaaGreat.PvGL3
namespace Go.Proofs.YtinhldbfifpakaaGreat.PvGL3
open Go Go.Pv Go.Pv.GS Go.IntKind
structure Chu (c:List Z7):Prop where
 cok:COk c
 ne:c≠[]
 k:∀ s∈c,HOk s.f1
 h0:Z2h.f c=some 0
def Za5 (D:List (List Z7)):List Bool:=D.flatMap fun c=>Z6n (Z80 (encX c))
variable {b:List Int}
end Go.Proofs.YtinhldbfifpakaaGreat.PvGL3
