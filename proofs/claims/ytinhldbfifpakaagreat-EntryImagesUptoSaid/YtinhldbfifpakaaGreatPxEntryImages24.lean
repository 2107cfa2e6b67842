import Derived.Test.YtinhldbfifpakaaGreatPxEntryImages23
set_option linter.unusedVariables false
set_option linter.unusedSimpArgs false
set_option maxRecDepth 10000
namespace Go.Proofs.YtinhldbfifpakaaGreat.PvGL3
open Go Go.Pv Go.Pv.GS
def wS (s:Z7):Nat:=s.f1.f6.length+s.f1.f7.length+1
def wSs (l:List Z7):Nat:=(l.map wS).sum
def wL (x:Z1o):Nat:=x.f0.size+x.f2.length+1+wSs x.f3
def wLs (l:List Z1o):Nat:=(l.map wL).sum
structure UL (x:Z1o):Prop where
 key:x.f0.size≤1048576
 tl:x.f2.length≤1048576
 hl:x.f3.length≤1048576
 hf:∀ s∈x.f3,s.f1.f6.length≤1048576∧s.f1.f7.length≤1048576∧Fits s.f1
structure UI (m:Z0c):Prop where
 bl:m.f1.length≤1048576
 ll:m.f2.length≤1048576
 lk:∀ x∈m.f2,UL x
theorem wSs_le:∀ (l:List Z7),(∀ s∈l,s.f1.f6.length≤1048576∧s.f1.f7.length≤1048576∧Fits s.f1)→wSs l≤2097153*l.length:=by
 intro l
 induction l with
 | nil=>simp[wSs]
 | cons s l ih =>
  intro h;have h1:=h s (by simp);have h2:=ih (fun y hy=>h y (by simp[hy]));simp only[wSs,List.map_cons,List.sum_cons,wS,List.length_cons] at h2 ⊢;omega
theorem wL_le {x:Z1o} (h:UL x):wL x≤2199026401281:=by
 have h1:=wSs_le x.f3 h.hf;have h2:=h.key;have h3:=h.tl;have h4:=h.hl;unfold wL;omega
theorem wLs_le:∀ (l:List Z1o),(∀ x∈l,UL x)→wLs l≤2199026401281*l.length:=by
 intro l
 induction l with
 | nil=>simp[wLs]
 | cons s l ih =>
  intro h;have h1:=wL_le (h s (by simp));have h2:=ih (fun y hy=>h y (by simp[hy]));simp only[wLs,List.map_cons,List.sum_cons,List.length_cons] at h2 ⊢;omega
theorem img_l1 (m:Z0c) (x:Z1o) (hx:UL x) (k:Int):∀ (suf pre:List Z7) (i:Int) (n:Nat),x.f3=pre++suf→i=(pre.length:Int)→n+2097153*suf.length<4000000000000000000→Z0q.l1 m x k (n:Int) i=some ((n+wSs suf:Nat):Int):=by
 have hhl:=hx.hl;intro suf
 induction suf with
 | nil=>intro pre i n h1 hi hn;rw[Z0q.l1,if_neg (by rw[h1];simp[hi])];rfl
 | cons s suf ih =>
  intro pre i n h1 hi hn;have hlen:x.f3.length=pre.length+(suf.length+1):=by rw[h1];simp
  obtain⟨k1,k2,_⟩:=hx.hf s (by rw[h1];simp);simp only[List.length_cons] at hn;rw[Z0q.l1,if_pos (by simp;omega),Z06 h1 hi,sb,Zc (n:=(s.f1.f6.length:Int)+(s.f1.f7.length:Int)) (by omega) (by omega),Zc (n:=(s.f1.f6.length:Int)+(s.f1.f7.length:Int)+1) (by omega) (by omega),Zc (by omega) (by omega),Zc (n:=i+1) (by omega) (by omega)];have hw:wS s≤2097153:=by unfold wS;omega
  have e:(n:Int)+((s.f1.f6.length:Int)+(s.f1.f7.length:Int)+1)=((n+wS s:Nat):Int):=by unfold wS;omega
  rw[e,ih (pre++[s]) (i+1) (n+wS s) (by simp[h1]) (by simp;omega) (by omega)];congr 2;simp only[wSs,List.map_cons,List.sum_cons];omega
theorem img_l0 (m:Z0c) (hm:UI m):∀ (suf pre:List Z1o) (i:Int) (n:Nat),m.f2=pre++suf→i=(pre.length:Int)→n+2199026401281*suf.length<3000000000000000000→Z0q.l0 m (n:Int) i=some ((n+wLs suf:Nat):Int):=by
 have hll:=hm.ll;intro suf
 induction suf with
 | nil=>intro pre i n h1 hi hn;rw[Z0q.l0,if_neg (by rw[h1];simp[hi])];rfl
 | cons x suf ih =>
  intro pre i n h1 hi hn;have hlen:m.f2.length=pre.length+(suf.length+1):=by rw[h1];simp
  have hx:=hm.lk x (by rw[h1];simp);have k1:=hx.key;have k2:=hx.tl;have k3:=hx.hl;have k4:=wL_le hx;simp only[List.length_cons] at hn;rw[Z0q.l0,if_pos (by simp;omega),Z06 h1 hi,sb,Zc (n:=(x.f0.size:Int)+(x.f2.length:Int)) (by omega) (by omega),Zc (n:=(x.f0.size:Int)+(x.f2.length:Int)+1) (by omega) (by omega),Zc (n:=(n:Int)+_) (by omega) (by omega),Zc (n:=i+1) (by omega) (by omega)];have e:(n:Int)+((x.f0.size:Int)+(x.f2.length:Int)+1)=((n+(x.f0.size+x.f2.length+1):Nat):Int):=by omega
  rw[e,img_l1 m x hx i x.f3 [] 0 _ rfl rfl (by omega),sb];have e2:n+(x.f0.size+x.f2.length+1)+wSs x.f3=n+wL x:=by unfold wL;omega
  rw[e2,ih (pre++[x]) (i+1) (n+wL x) (by simp[h1]) (by simp;omega) (by omega)];congr 2;simp only[wLs,List.map_cons,List.sum_cons];omega
noncomputable def ofX (l:List Z1):List Z1:=((Z4u.f l).getD ⟨[]⟩).f0
theorem ofX_ok (l:List Z1) (hl:l.length<1000000000):Z4u.f l=some ⟨ofX l⟩∧Z7p (ofX l)∧(ofX l).length≤l.length:=by
 obtain⟨r,e,h1,_,h3⟩:=of_spec l hl;have:ofX l=r:=by unfold ofX;rw[e];rfl
 rw[this];exact⟨e,h1,h3⟩
noncomputable def picL (x:Z1o):Zs:=⟨x.f0,x.f1,⟨ofX x.f2⟩,x.f3⟩
noncomputable def pic (m:Z0c):Zl:=⟨m.f0,m.f1,m.f2.map picL⟩
theorem pic_l0 (m:Z0c) (hm:UI m):∀ (suf pre:List Z1o) (i:Int),m.f2=pre++suf→i=(pre.length:Int)→Z3d.l0 m (pre.map picL) i=some (m.f2.map picL):=by
 have hll:=hm.ll;intro suf
 induction suf with
 | nil=>intro pre i h1 hi;rw[Z3d.l0,if_neg (by rw[h1];simp[hi]),h1];simp
 | cons x suf ih =>
  intro pre i h1 hi;have hlen:m.f2.length=pre.length+(suf.length+1):=by rw[h1];simp
  have hx:=hm.lk x (by rw[h1];simp);have ht:=hx.tl;rw[Z3d.l0,if_pos (by simp;omega),Z06 h1 hi,sb,t_to_eq _ (by omega),sb,(ofX_ok x.f2 (by omega)).1,sb,chkB (by simp;omega),Zc (n:=i+1) (by omega) (by omega)];have:=ih (pre++[x]) (i+1) (by simp[h1]) (by simp;omega);rw[List.map_append] at this;exact this
theorem pic15 (m:Z0c) (hm:UI m):Z3d.f m=some (pic m):=by
 unfold Z3d.f;rw[show([]:List Zs)=([]:List Z1o).map picL from rfl,pic_l0 m hm m.f2 [] 0 rfl rfl,sb];rfl
theorem pct_l0 (m n:Z0c) (h:m.f1=n.f1) (hl:m.f1.length≤1048576):∀ (suf pre:List Int) (i:Int),m.f1=pre++suf→i=(pre.length:Int)→Z0o.l0 m n i=some (.inr ()):=by
 intro suf
 induction suf with
 | nil=>intro pre i h1 hi;rw[Z0o.l0,if_neg (by rw[h1];simp[hi])]
 | cons s suf ih =>
  intro pre i h1 hi;have hlen:m.f1.length=pre.length+(suf.length+1):=by rw[h1];simp
  rw[Z0o.l0,if_pos (by simp;omega),Z06 h1 hi,sb,Z06 (h ▸ h1) hi,sb,if_neg (by simp),Zc (n:=i+1) (by omega) (by omega)];exact ih (pre++[s]) (i+1) (by simp[h1]) (by simp;omega)
theorem pct_l2 (m n:Z0c) (x:Z1o) (k:Int) (hl:x.f2.length≤1048576):∀ (suf pre:List Z1) (i:Int),x.f2=pre++suf→i=(pre.length:Int)→Z0o.l2 m n x x k i=some (.inr ()):=by
 intro suf
 induction suf with
 | nil=>intro pre i h1 hi;rw[Z0o.l2,if_neg (by rw[h1];simp[hi])]
 | cons s suf ih =>
  intro pre i h1 hi;have hlen:x.f2.length=pre.length+(suf.length+1):=by rw[h1];simp
  rw[Z0o.l2,if_pos (by simp;omega),Z06 h1 hi,sb,sb,if_neg (by simp),Zc (n:=i+1) (by omega) (by omega)];exact ih (pre++[s]) (i+1) (by simp[h1]) (by simp;omega)
theorem pct_l1 (m:Z0c) (hm:UI m):∀ (suf pre:List Z1o) (i:Int),m.f2=pre++suf→i=(pre.length:Int)→Z0o.l1 m m i=some (.inr ()):=by
 have hll:=hm.ll;intro suf
 induction suf with
 | nil=>intro pre i h1 hi;rw[Z0o.l1,if_neg (by rw[h1];simp[hi])]
 | cons x suf ih =>
  intro pre i h1 hi;have hlen:m.f2.length=pre.length+(suf.length+1):=by rw[h1];simp
  have hx:=hm.lk x (by rw[h1];simp);have hhl:=hx.hl;rw[Z0o.l1,if_pos (by simp;omega),Z06 h1 hi,sb,sb,if_neg (by simp),if_neg (by simp),same9_eq x.f3 x.f3 (by omega) (fun s hs=>by have:=hx.hf s hs;omega),sb,if_neg (by simp),sb,if_neg (by simp),pct_l2 m m x i hx.tl x.f2 [] 0 rfl rfl,sb,Zc (n:=i+1) (by omega) (by omega)];exact ih (pre++[x]) (i+1) (by simp[h1]) (by simp;omega)
theorem pct_self (m:Z0c) (hm:UI m):Z0o.f m m=some true:=by
 unfold Z0o.f;rw[if_neg (by simp),if_neg (by simp),sb,if_neg (by simp),pct_l0 m m rfl hm.bl m.f1 [] 0 rfl rfl,sb];dsimp only;rw[pct_l1 m hm m.f2 [] 0 rfl rfl,sb]
theorem ui_of {m:Z0c} (r:Zcw m):UI m :=
 ⟨r.r1.1,r.r2.1,fun x hx=>let q:=r.r2.2 x hx;⟨q.r0,q.r2.1,q.r3.1,fun s hs=>let w:=(q.r3.2 s hs).r1;⟨w.r6.1,w.r7.1,fits_of w⟩⟩⟩
theorem sumH_pic (l:List Z1o):sumH (l.map picL)≤wLs l:=by
 induction l with
 | nil=>simp[sumH]
 | cons x l ih =>
  have h2:x.f3.length≤wSs x.f3:=by
   have:∀ q:List Z7,q.length≤wSs q:=fun q=>by
    induction q with
    | nil=>simp
    | cons s q ih=>simp only[wSs,List.map_cons,List.sum_cons,wS,List.length_cons] at ih ⊢;omega
   exact this _
  rw[List.map_cons,Zdu];have h3:(picL x).f3.length=x.f3.length:=rfl;simp only[wLs,List.map_cons,List.sum_cons,wL] at ih ⊢;omega
theorem wLs_len (l:List Z1o):l.length≤wLs l:=by
 induction l with
 | nil=>simp
 | cons x l ih=>simp only[wLs,List.map_cons,List.sum_cons,wL,List.length_cons] at ih ⊢;omega
theorem entryImages_R (m:Z0c) (rm:Zcw m):Z0q.f m=some true:=by
 have hu:=ui_of rm;have hbl:=hu.bl;have hll:=hu.ll;have hws:=wLs_le m.f2 hu.lk;unfold Z0q.f;rw[img_l0 m hu m.f2 [] 0 m.f1.length rfl rfl (by omega),sb];by_cases hn:m.f1.length+wLs m.f2≤1500
 case neg=>rw[if_pos (by simp;omega),awake15,sb]
 have hlen:=wLs_len m.f2;have hsH:=sumH_pic m.f2;have hmem:∀ x∈m.f2,wL x≤1500:=fun x hx=>by
  have:=sum_mem wL m.f2 x hx;unfold wLs at hn;omega
 have hIM:IM (pic m):=⟨hbl,by show(m.f2.map picL).length≤_;rw[List.length_map];exact hll,fun y hy=>by
  obtain⟨x,hx,rfl⟩:=List.mem_map.1 (show y∈m.f2.map picL from hy);have h1:=hmem x hx;have h2:=hu.lk x hx;have h3:=h2.tl;have h4:=ofX_ok x.f2 (by omega);unfold wL at h1;have h5:x.f3.length≤wSs x.f3:=by
   have:∀ q:List Z7,q.length≤wSs q:=fun q=>by
    induction q with
    | nil=>simp
    | cons s q ih=>simp only[wSs,List.map_cons,List.sum_cons,wS,List.length_cons] at ih ⊢;omega
   exact this _
  exact⟨by show x.f0.size≤_;omega,h4.2.1,by show(ofX x.f2).length≤_;omega,by show x.f3.length≤_;omega,fun s hs=>by have:=h2.hf s hs;exact⟨this.2.2,by omega,by omega⟩⟩⟩
 have hW:sumW (pic m).f2≤90000000000:=by
  show sumW (m.f2.map picL)≤_;rw[sumW_le,List.length_map];omega
 have h65:∀ y∈(pic m).f2,y.f2.f0.length≤65536∧y.f3.length≤65536:=fun y hy=>by
  obtain⟨x,hx,rfl⟩:=List.mem_map.1 (show y∈m.f2.map picL from hy);have h1:=hmem x hx;have h2:=hu.lk x hx;have h3:=h2.tl;have h4:=ofX_ok x.f2 (by omega);have h6:=sumH_mem (m.f2.map picL) (picL x) (List.mem_map.2 ⟨x,hx,rfl⟩);unfold wL at h1;exact⟨by show(ofX x.f2).length≤_;omega,by omega⟩
 have hseen:=seen15 (pic m) hIM.ll (fun x hx=>(hIM.lk x hx).tl);rw[if_neg (by simp;omega),pic15 m hu,sb,hseen,sb,rsound15 _ hIM,sb];have hus:UI (seen (pic m)):=⟨hbl,by show((m.f2.map picL).map Z5w).length≤_;rw[List.length_map,List.length_map];exact hll,fun y hy=>by
  obtain⟨z,hz,rfl⟩:=List.mem_map.1 (show y∈(m.f2.map picL).map Z5w from hy);have h1:=hIM.lk z hz;have h2:=h65 z hz;exact⟨by
   obtain⟨x,hx,rfl⟩:=List.mem_map.1 hz;exact(hu.lk x hx).key,by show z.f2.f0.length≤_;omega,by show z.f3.length≤_;omega,fun s hs=>by have:=h1.hf s hs;exact⟨by omega,by omega,this.1⟩⟩⟩
 cases hR:Z9s (pic m) with
 | false =>
  rw[store_no hIM hR,sb,Zdw _ hIM,sb,hR];dsimp only;rw[if_neg (by simp),sb,if_neg (by simp),if_pos (by simp),awake15,sb,if_pos rfl,if_pos (by simp),sb];rfl
 | true =>
  obtain⟨b,f,E1,hL⟩:=store_eq hIM hR hW;have hi:=il_of hIM hR hW;have h1:=imgB_len hi;have h2:=hL.len;have h3:=hL.lt;have hsrc:Src b:=⟨hL.byte,by omega⟩
  obtain⟨y,f2,E2,hL2⟩:=rstore_eq hi;have:=hL.unique hL2;subst this;rw[E1,sb,Zdw _ hIM,sb,hR];dsimp only;rw[if_neg (by simp),sb,if_neg (by simp),if_neg (by simp),load_fwd hsrc hIM hR hW h65 hL,sb,awake15,sb,if_pos rfl,E2,sb,if_pos (by simp)];dsimp only;rw[if_pos (by simp),hseen,sb,pct_self _ hus,sb,sb]
end Go.Proofs.YtinhldbfifpakaaGreat.PvGL3
