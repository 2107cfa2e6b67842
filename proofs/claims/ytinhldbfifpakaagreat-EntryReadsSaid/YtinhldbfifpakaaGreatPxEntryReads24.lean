import Derived.Test.YtinhldbfifpakaaGreatPxEntryReads23
set_option linter.unusedVariables false
set_option linter.unusedSimpArgs false
set_option maxRecDepth 10000
namespace Go.Proofs.YtinhldbfifpakaaGreat.PvGL2
open Go Go.Pv Go.Pv.GS Go.IntKind
def setB (l:List Zc):List Bool:=cnt2 l.length++layB 0 l
def Zdq (x:Zy):List Bool:=Z6i x.f0++(cnt2 x.f1.toNat++(setB x.f2.f0++smpsB x.f3))
def blksB (l:List Int):List Bool:=l.flatMap fun n=>cnt2 n.toNat
def imgB (m:Zo):List Bool:=cnt2 m.f0.toNat++(cnt2 m.f1.length++(blksB m.f1++(cnt2 m.f2.length++m.f2.flatMap Zdq)))
structure LL (x:Zy):Prop where
 key:x.f0.size≤2080
 last:0≤x.f1∧x.f1≤1099511627776
 ap:Z6l x.f2.f0
 tl:x.f2.f0.length≤100000
 hl:x.f3.length≤100000
 hs:∀ s∈x.f3,SOk s
def lineW (x:Zy):Nat:=15000000+3300000*x.f3.length
def sumW (l:List Zy):Nat:=(l.map lineW).sum
theorem Zap (x:Zy) (l:List Zy):sumW (x::l)=lineW x+sumW l:=by simp[sumW]
theorem setB_len (l:List Zc):(setB l).length≤71+142*l.length:=by
 have h1:=Z0e l.length
 have h2:=Zcz l 0
 rw[setB,List.length_append];omega
theorem Zdp {x:Zy} (h:LL x):(Zdq x).length≤lineW x:=by
 have hl:=h.hl
 have ht:=h.tl
 obtain⟨C,hC⟩:=cutX_ok x.f3 (by omega) h.hs
 have h1:=smpsB_len hC
 have h2:=setB_len x.f2.f0
 have h3:=Z0e x.f1.toNat
 have h4:=Z62 x.f0
 have h5:=h.key
 unfold lineW
 rw[Zdq,List.length_append,List.length_append,List.length_append];omega
structure IL (m:Zo):Prop where
 mark:0≤m.f0∧m.f0≤1099511627776
 bl:m.f1.length≤256
 blk:∀ n∈m.f1,0≤n∧n≤65536
 ll:m.f2.length≤64
 lk:∀ x∈m.f2,LL x
 w:sumW m.f2≤90000000000
theorem blocksB_mem:∀ (l:List Int) (p:Option Int),Z90 p l=true→∀ n∈l,0≤n∧n≤65536:=by
 intro l
 induction l with
 | nil=>simp
 | cons y l ih =>
  intro p h n hn
  rw[Z9h] at h
  simp only[Bool.and_eq_true] at h
  rcases List.mem_cons.1 hn with rfl | hn
  ·exact of_decide_eq_true h.1
  ·exact ih _ h.2.2 n hn
theorem linesB_mem:∀ (l:List Zy) (p:Option ByteArray),Z7v p l=true→∀ x∈l,keyB x.f0=true∧Za1 x=true:=by
 intro l
 induction l with
 | nil=>simp
 | cons y l ih =>
  intro p h n hn
  rw[Zag] at h
  simp only[Bool.and_eq_true] at h
  rcases List.mem_cons.1 hn with rfl | hn
  ·exact⟨h.1,h.2.2.1⟩
  ·exact ih _ h.2.2.2 n hn
theorem il_of {m:Zo} (hm:IM m) (h:Zar m=true) (hw:sumW m.f2≤90000000000):IL m:=by
 unfold Zar at h
 simp only[Bool.and_eq_true,decide_eq_true_eq] at h
 obtain⟨h1,h2,h3,h4⟩:=h
 unfold Z4a at h1
 refine⟨of_decide_eq_true h1,h2.2,blocksB_mem _ _ h3,h2.1,fun x hx => ?_,hw⟩
 have hk:=hm.lk x hx
 obtain⟨k1,k2⟩:=linesB_mem _ _ h4 x hx
 unfold Za1 at k2
 simp only[Bool.and_eq_true] at k2
 have k3:=k2.1
 unfold Z4a at k3
 exact⟨Zds hk.key k1,of_decide_eq_true k3,hk.ap,hk.tl,hk.hl,rise_sok _ _ (fun s hs=>(hk.hf s hs).1) k2.2.1⟩
theorem Zea (l:List Int):(blksB l).length≤71*l.length:=flat_le (fun n:Int=>cnt2 n.toNat) 71 l (fun n _=>Z0e _)
theorem linesB_len:∀ (l:List Zy),(∀ x∈l,LL x)→(l.flatMap Zdq).length≤sumW l:=by
 intro l
 induction l with
 | nil=>simp[sumW]
 | cons x l ih =>
  intro h
  have h1:=Zdp (h x (by simp))
  have h2:=ih (fun y hy=>h y (by simp[hy]))
  rw[List.flatMap_cons,List.length_append,Zap];omega
theorem imgB_len {m:Zo} (h:IL m):(imgB m).length≤90000100000:=by
 have h1:=Z0e m.f0.toNat
 have h2:=Z0e m.f1.length
 have h3:=Zea m.f1
 have h4:=Z0e m.f2.length
 have h5:=linesB_len m.f2 h.lk
 have h6:=h.w
 have h7:=h.bl
 rw[imgB,List.length_append,List.length_append,List.length_append,List.length_append];omega
theorem sto_l0 (m:Zo) (hl:m.f1.length≤256):∀ (suf pre:List Int) (b:List Int) (f:Nat) (s:List Bool) (i:Int),m.f1=pre++suf→i=(pre.length:Int)→(∀ n∈suf,0≤n∧n≤65536)→s.length+71*suf.length<1000000→Laid b f s →
  ∃ (b':List Int) (f':Nat),Z1d.l0 m b (f:Int) i=some (b',(f':Int))∧Laid b' f' (s++blksB suf):=by
 intro suf
 induction suf with
 | nil =>
  intro pre b f s i h1 hi _ _ hL
  rw[Z1d.l0,if_neg (by rw[h1];simp[hi])]
  exact⟨b,f,rfl,by simpa[blksB] using hL⟩
 | cons n suf ih =>
  intro pre b f s i h1 hi hx hs hL
  have hlen:m.f1.length=pre.length+(suf.length+1):=by rw[h1];simp
  have hn:=hx n (by simp)
  have hc:=Z0e n.toNat
  simp only[List.length_cons] at hs
  rw[Z1d.l0,if_pos (by simp;omega),Z03 h1 hi,sb,Z31 (n:=n) (by omega) (by omega)]
  obtain⟨b1,f1,e1,h2⟩:=Z6b hL (by omega) (n:=n) (by omega) (by omega)
  rw[e1,sb,Za (n:=i+1) (by omega) (by omega)]
  dsimp only
  obtain⟨b2,f2,e2,h3⟩:=ih (pre++[n]) b1 f1 _ (i+1) (by simp[h1]) (by simp;omega) (fun y hy=>hx y (by simp[hy])) (by rw[List.length_append];omega) h2
  exact⟨b2,f2,e2,by simpa[blksB] using h3⟩
theorem sto_l1 (m:Zo) (hl:m.f2.length≤64):∀ (suf pre:List Zy) (b:List Int) (f:Nat) (s:List Bool) (i:Int),m.f2=pre++suf→i=(pre.length:Int)→(∀ x∈suf,LL x)→s.length+sumW suf<100000000000→Laid b f s →
  ∃ (b':List Int) (f':Nat),Z1d.l1 m b (f:Int) i=some (b',(f':Int))∧Laid b' f' (s++suf.flatMap Zdq):=by
 intro suf
 induction suf with
 | nil =>
  intro pre b f s i h1 hi _ _ hL
  rw[Z1d.l1,if_neg (by rw[h1];simp[hi])]
  exact⟨b,f,rfl,by simpa using hL⟩
 | cons x suf ih =>
  intro pre b f s i h1 hi hx hs hL
  have hlen:m.f2.length=pre.length+(suf.length+1):=by rw[h1];simp
  have hk:=hx x (by simp)
  have k1:=hk.key
  have k2:=Z62 x.f0
  have k3:=Zdp hk
  have k4:=setB_len x.f2.f0
  have k5:=Z0e x.f1.toNat
  have k6:=hk.last
  have k7:=hk.tl
  have k8:=hk.hl
  rw[Zap] at hs
  obtain⟨C,hC⟩:=cutX_ok x.f3 (by omega) hk.hs
  rw[Z1d.l1,if_pos (by simp;omega),Z03 h1 hi,sb]
  obtain⟨b1,f1,e1,h2⟩:=text_eq hL x.f0 (by omega) (by omega)
  rw[e1,sb,Z31 (n:=x.f1) (by omega) (by omega)]
  dsimp only
  obtain⟨b2,f2,e2,h3⟩:=Z6b h2 (by rw[List.length_append];omega) (n:=x.f1) (by omega) (by omega)
  rw[e2,sb]
  dsimp only
  obtain⟨b3,f3,e3,h4⟩:=lay9_eq h3 (by rw[List.length_append,List.length_append];omega) x.f2.f0 (by omega) hk.ap
  rw[e3,sb]
  dsimp only
  obtain⟨b4,f4,e4,h5⟩:=smpsW h4 hC (by omega) (by rw[List.length_append,List.length_append,List.length_append];unfold setB at k4;omega)
  rw[e4,sb,Za (n:=i+1) (by omega) (by omega)]
  dsimp only
  have e:s++Z6i x.f0++cnt2 x.f1.toNat++(cnt2 x.f2.f0.length++layB 0 x.f2.f0)++smpsB x.f3=s++Zdq x:=by rw[Zdq,setB];simp
  rw[e] at h5
  obtain⟨b5,f5,e5,h6⟩:=ih (pre++[x]) b4 f4 _ (i+1) (by simp[h1]) (by simp;omega) (fun y hy=>hx y (by simp[hy])) (by rw[List.length_append];omega) h5
  exact⟨b5,f5,e5,by rw[List.flatMap_cons,← List.append_assoc];exact h6⟩
theorem wcount00 (f n:Int):Z1m.f f n=Z9.f [] f n:=by kernel_rfl
theorem bytes_ok' {b:List Int} {f:Int} (h:b.length<100000000000):Z0y.f b f=some b:=by
 unfold Z0y.f Z3l.f
 rw[chkB (by simp;omega),sb]
theorem store_eq {m:Zo} (hm:IM m) (h:Zar m=true) (hw:sumW m.f2≤90000000000):∃ (b:List Int) (f:Nat),Z1d.f m=some (b,0)∧Laid b f (imgB m):=by
 have hi:=il_of hm h hw
 have hl:=imgB_len hi
 have k1:=hi.mark
 have k2:=hi.bl
 have k3:=hi.ll
 have c1:=Z0e m.f0.toNat
 have c2:=Z0e m.f1.length
 have c3:=Zea m.f1
 have c4:=Z0e m.f2.length
 unfold Z1d.f
 rw[sound15 m hm,sb,h,if_neg (by simp),wcount00,Z31 (n:=m.f0) (by omega) (by omega),Z31 (n:=(m.f1.length:Int)) (by omega) (by omega),Z31 (n:=(m.f2.length:Int)) (by omega) (by omega)]
 obtain⟨b1,f1,e1,h1⟩:=Z6b Laid.nil (by simp) (n:=m.f0) (by omega) (by omega)
 rw[show Z9.f [] 0 m.f0=_ from e1,sb]
 dsimp only
 obtain⟨b2,f2,e2,h2⟩:=Z6b h1 (by simp;omega) (n:=(m.f1.length:Int)) (by omega) (by omega)
 rw[e2,sb]
 dsimp only
 rw[List.nil_append,Int.toNat_natCast] at h2
 obtain⟨b3,f3,e3,h3⟩:=sto_l0 m k2 m.f1 [] b2 f2 _ 0 rfl rfl hi.blk (by rw[List.length_append];omega) h2
 rw[e3,sb]
 dsimp only
 obtain⟨b4,f4,e4,h4⟩:=Z6b h3 (by rw[List.length_append,List.length_append];omega) (n:=(m.f2.length:Int)) (by omega) (by omega)
 rw[e4,sb]
 dsimp only
 rw[Int.toNat_natCast] at h4
 obtain⟨b5,f5,e5,h5⟩:=sto_l1 m k3 m.f2 [] b4 f4 _ 0 rfl rfl hi.lk (by have:=hi.w;rw[List.length_append,List.length_append,List.length_append];omega) h4
 have h6:Laid b5 f5 (imgB m):=by rw[imgB];simpa using h5
 have q1:=h6.len
 have q2:=h6.lt
 rw[e5,sb]
 dsimp only
 rw[bytes_ok' (by omega),sb]
 exact⟨b5,f5,rfl,h6⟩
theorem rset_l0 (l:List Zc) (hl:l.length≤100000):∀ (suf pre:List Zc) (s:List Bool) (last i:Int),l=pre++suf→i=(pre.length:Int)→Zel last suf→s.length+142*suf.length<700000000000 →
  Z3h.l0 l (strB s) last i=some (strB (s++layB last suf)):=by
 intro suf
 induction suf with
 | nil=>intro pre s last i h1 hi _ _;rw[Z3h.l0,if_neg (by rw[h1];simp[hi])];simp[layB]
 | cons r suf ih =>
  intro pre s last i h1 hi hB hs
  have hlen:l.length=pre.length+(suf.length+1):=by rw[h1];simp
  have hr:=hB.2.2.1.head
  have hr2:=hB.2.2.2 r (by simp)
  have hb1:=hB.1
  have hb2:=hB.2.1
  have hc1:=Z0e (r.f0-last).toNat
  have hc2:=Z0e (r.f1-r.f0).toNat
  simp only[List.length_cons] at hs
  rw[Z3h.l0,if_pos (by simp;omega),Z03 h1 hi,sb,Za (n:=r.f0-last) (by omega) (by omega),Za (n:=r.f1-r.f0) (by omega) (by omega),Z31 (n:=r.f0-last) (by omega) (by omega),Z31 (n:=r.f1-r.f0) (by omega) (by omega),
   Z7h ⟨by omega,by omega⟩,sb,chkB (by rw[Zl,Zl];omega),Z7h ⟨by omega,by omega⟩,sb,← Z0b,chkB (by rw[Zl,Zl,List.length_append];omega),← Z0b,Za (n:=i+1) (by omega) (by omega),Za (n:=r.f1+2) (by omega) (by omega),
   ih (pre++[r]) _ (r.f1+2) (i+1) (by simp[h1]) (by simp;omega) hB.next (by rw[List.length_append,List.length_append];omega),layB]
  simp
theorem rset (l:List Zc) (hl:l.length≤100000) (h:Z6l l):Z3h.f l=some (strB (setB l)):=by
 have hc:=Z0e l.length
 have hB:Zel 0 l:=⟨by omega,by omega,h,fun r hr=>(h.right r hr).1⟩
 unfold Z3h.f
 rw[Z31 (by omega) (by omega),Z7i (by omega),sb,rset_l0 l hl l [] _ 0 0 rfl rfl hB (by omega),sb,setB]
theorem rsto_l0 (m:Z2j) (hl:m.f1.length≤256):∀ (suf pre:List Int) (s:List Bool) (i:Int),m.f1=pre++suf→i=(pre.length:Int)→(∀ n∈suf,0≤n∧n≤65536)→s.length+71*suf.length<1000000 →
  Z2b.l0 m (strB s) i=some (strB (s++blksB suf)):=by
 intro suf
 induction suf with
 | nil=>intro pre s i h1 hi _ _;rw[Z2b.l0,if_neg (by rw[h1];simp[hi])];simp[blksB]
 | cons n suf ih =>
  intro pre s i h1 hi hx hs
  have hlen:m.f1.length=pre.length+(suf.length+1):=by rw[h1];simp
  have hn:=hx n (by simp)
  have hc:=Z0e n.toNat
  simp only[List.length_cons] at hs
  rw[Z2b.l0,if_pos (by simp;omega),Z03 h1 hi,sb,Z31 (n:=n) (by omega) (by omega),Z7h ⟨by omega,by omega⟩,sb,chkB (by rw[Zl,Zl];omega),← Z0b,Za (n:=i+1) (by omega) (by omega),ih (pre++[n]) _ (i+1) (by simp[h1]) (by simp;omega) (fun y hy=>hx y (by simp[hy])) (by rw[List.length_append];omega)]
  simp[blksB]
theorem rsto_l1 (m:Zo) (hl:m.f2.length≤64):∀ (suf pre:List Zy) (s:List Bool) (i:Int),m.f2=pre++suf→i=(pre.length:Int)→(∀ x∈suf,LL x)→s.length+sumW suf<100000000000 →
  Z2b.l1 (seen m) (strB s) i=some (strB (s++suf.flatMap Zdq)):=by
 have hlm:(seen m).f2.length=m.f2.length:=by show(m.f2.map Z5o).length=_;simp
 intro suf
 induction suf with
 | nil=>intro pre s i h1 hi _ _;rw[Z2b.l1,if_neg (by rw[hlm,h1];simp[hi])];simp
 | cons x suf ih =>
  intro pre s i h1 hi hx hs
  have hlen:m.f2.length=pre.length+(suf.length+1):=by rw[h1];simp
  have hk:=hx x (by simp)
  have k1:=hk.key
  have k2:=Z62 x.f0
  have k3:=Zdp hk
  have k4:=setB_len x.f2.f0
  have k5:=Z0e x.f1.toNat
  have k6:=hk.last
  have k7:=hk.tl
  have k8:=hk.hl
  rw[Zap] at hs
  obtain⟨C,hC⟩:=cutX_ok x.f3 (by omega) hk.hs
  have k9:=smpsB_len hC
  have hsq:(seen m).f2=pre.map Z5o++Z5o x::suf.map Z5o:=by show m.f2.map Z5o=_;rw[h1];simp
  have hw:lineW x=15000000+3300000*x.f3.length:=rfl
  rw[Z2b.l1,if_pos (by rw[hlm];simp;omega),Z03 (pre:=pre.map Z5o) (suf:=suf.map Z5o) hsq (by simp[hi]),sb]
  show((Z4b.f x.f0)>>=_:Option ByteArray)=_
  rw[Zdb _ (by omega),sb,chkB (by rw[Zl,Zl];omega)]
  show((Zv.f (u64.wrap x.f1))>>=_:Option ByteArray)=_
  rw[Z31 (n:=x.f1) (by omega) (by omega),Z7h ⟨by omega,by omega⟩,sb,← Z0b,chkB (by rw[Zl,Zl,List.length_append];omega)]
  show((Z3h.f x.f2.f0)>>=_:Option ByteArray)=_
  rw[rset _ (by omega) hk.ap,sb,← Z0b,chkB (by rw[Zl,Zl,List.length_append,List.length_append];omega)]
  show((Z01.f x.f3)>>=_:Option ByteArray)=_
  rw[smpsR hC (by omega),sb,← Z0b,chkB (by rw[Zl,Zl,List.length_append,List.length_append,List.length_append];omega),← Z0b,Za (n:=i+1) (by omega) (by omega)]
  have e:s++Z6i x.f0++cnt2 x.f1.toNat++setB x.f2.f0++smpsB x.f3=s++Zdq x:=by rw[Zdq];simp
  rw[e,ih (pre++[x]) _ (i+1) (by simp[h1]) (by simp;omega) (fun y hy=>hx y (by simp[hy])) (by rw[List.length_append];omega),List.flatMap_cons,List.append_assoc]
theorem rstore_eq {m:Zo} (hi:IL m):∃ (b:List Int) (f:Nat),Z2b.f (seen m)=some b∧Laid b f (imgB m):=by
 have hl:=imgB_len hi
 have k1:=hi.mark
 have k2:=hi.bl
 have k3:=hi.ll
 have c1:=Z0e m.f0.toNat
 have c2:=Z0e m.f1.length
 have c3:=Zea m.f1
 have c4:=Z0e m.f2.length
 have hlm:(seen m).f2.length=m.f2.length:=by show(m.f2.map Z5o).length=_;simp
 have hw:=hi.w
 have e0:(seen m).f0=m.f0:=rfl
 have e1:(seen m).f1=m.f1:=rfl
 unfold Z2b.f
 rw[hlm,e0,e1,Z31 (n:=m.f0) (by omega) (by omega),Z31 (n:=(m.f1.length:Int)) (by omega) (by omega),Z31 (n:=(m.f2.length:Int)) (by omega) (by omega),Z7h ⟨by omega,by omega⟩,sb,Z7i (by omega),sb,chkB (by rw[Zl,Zl];omega),← Z0b,
  rsto_l0 (seen m) k2 m.f1 [] _ 0 rfl rfl hi.blk (by rw[List.length_append];omega),sb,Z7i (by omega),sb,chkB (by rw[Zl,Zl,List.length_append,List.length_append];omega),← Z0b,
  rsto_l1 m k3 m.f2 [] _ 0 rfl rfl hi.lk (by rw[List.length_append,List.length_append,List.length_append];omega),sb]
 have e2:cnt2 m.f0.toNat++cnt2 m.f1.length++blksB m.f1++cnt2 m.f2.length++m.f2.flatMap Zdq=imgB m:=by rw[imgB];simp
 rw[e2]
 obtain⟨b,f,e,h⟩:=rbytes (imgB m) (by omega)
 rw[e,sb]
 exact⟨b,f,rfl,h⟩
end Go.Proofs.YtinhldbfifpakaaGreat.PvGL2
set_option linter.unusedVariables false
set_option linter.unusedSimpArgs false
set_option maxRecDepth 10000
namespace Go.Proofs.YtinhldbfifpakaaGreat.PvGL2
open Go Go.Pv Go.Pv.GS Go.IntKind
variable {b:List Int}
theorem cnt2_pos (n:Nat):1≤(cnt2 n).length:=by
 simp only[cnt2,List.length_append,List.length_replicate]
 split<;>simp<;>omega
theorem intB_pos (n:Int):1≤(intB n).length:=by unfold intB;exact cnt2_pos _
theorem body_pos (P N:List Int):∀ (suf:List Z7) (q p:Option Z7),suf.length≤(body P N q p suf).length:=by
 intro suf
 induction suf with
 | nil=>simp
 | cons s suf ih =>
  intro q p
  have h:=ih p (some s)
  cases p with
  | none =>
   have h1:=ih none (some s)
   have h2:=cnt2_pos s.f0.toNat
   cases q<;>simp only[body,List.length_append,List.length_cons]<;>omega
  | some p =>
   cases q with
   | none =>
    have h2:=cnt2_pos (s.f0-p.f0-1).toNat
    simp only[body,List.length_append,List.length_cons];omega
   | some q =>
    have h2:=intB_pos (s.f0-2*p.f0+q.f0)
    simp only[body,List.length_append,List.length_cons];omega
theorem chunk_pos (c:List Z7):c.length≤(Z6o c).length:=by
 cases c with
 | nil=>simp
 | cons h r =>
  have:=body_pos (allI 0 (h::r)) (allI 1 (h::r)) (h::r) none none
  simp only[Z6o,List.length_append];omega
theorem Chu.pos {c:List Z7} (h:Chu c):c.length≤(Z6i (Z5l (encX c))).length:=by
 obtain⟨_,⟨f,e2⟩,e3,_⟩:=h.enc
 have h1:=chunk_pos c
 have h2:=e2.len
 have h3:=e2.lt
 rw[Z6i,List.length_append,Ze8,Z4y,e3]
 omega
theorem chus_pos:∀ (D:List (List Z7)),(∀ c∈D,Chu c)→D.flatten.length≤(Z9g D).length:=by
 intro D
 induction D with
 | nil=>simp[Z9g]
 | cons c D ih =>
  intro h
  have h1:=(h c (by simp)).pos
  have h2:=ih (fun x hx=>h x (by simp[hx]))
  simp only[Z9g,List.flatten_cons,List.flatMap_cons,List.length_append] at h2 ⊢
  omega
def tailL' (b:List Int) (a e:Int) (ok:Bool) (m:Zo):Option (Zo×Int) :=
 (((if(!ok)=true then(some true) else((Zn.f b a e)>>=fun t9811=>if(t9811.1 != (0:Int))=true then(some true) else((Z12.f m)>>=fun t9814=>some (!t9814)))):Option (Bool))>>=fun x9816=>if x9816=true then(some ((⟨0,[],[]⟩:Zo),6)) else((Z1d.f m)>>=fun t9820=>((if(t9820.2 != (0:Int))=true then(some true) else((Z0t.f t9820.1 b)>>=fun t9826=>some (!t9826))):Option (Bool))>>=fun x9828=>if x9828=true then(some ((⟨0,[],[]⟩:Zo),6)) else(some (m,0))))
end Go.Proofs.YtinhldbfifpakaaGreat.PvGL2
set_option linter.unusedVariables false
set_option linter.unusedSimpArgs false
set_option maxRecDepth 10000
namespace Go.Proofs.YtinhldbfifpakaaGreat.PvGL2
open Go Go.Pv Go.Pv.GS Go.IntKind
variable {b:List Int}
theorem Z9a (hb:Src b) {m:Nat} (hm:m<9223372036854775808) {a:Nat} (ha:a≤8*b.length) (e:Int):∃ (n a1:Nat) (e1:Int),Z3.f b (a:Int) e (m:Int)=some ((n:Int),(a1:Int),e1)∧a1≤8*b.length∧n≤m∧(e≠0→e1≠0)∧(e=0→e1=0→(Z0c b).drop a=cnt2 n++(Z0c b).drop a1):=by
 by_cases he:e=0
 ·subst he
  obtain⟨n,a0,e0,s1,s2,s3,s4⟩:=Z63 hb hm ha
  refine⟨n,a0,e0,s1,s2,s3,fun h=>absurd rfl h,fun _ h => ?_⟩
  rcases s4 with ⟨_,s4⟩ | ⟨s4,_⟩
  ·exact s4
  ·exact absurd h s4
 ·exact⟨0,a,e,Z70 he,ha,by omega,fun h=>h,fun h=>absurd h he⟩
theorem adv {a a1:Nat} {s:List Bool} (ha:a≤8*b.length) (ha1:a1≤8*b.length) (h:(Z0c b).drop a=s++(Z0c b).drop a1):a1=a+s.length:=by
 have:=congrArg List.length h
 simp only[List.length_drop,Z21,List.length_append] at this
 omega
theorem lod_l0_tot (hb:Src b) (t1 t2:Int×Int×Int) (n:Nat) (hn:n≤256) (ht:t2.1=(n:Int)):∀ (m:Nat) (acc:List Int) (a:Nat) (e i:Int),i+m=n→0≤i→(acc.length:Int)≤i→a≤8*b.length →
  ∃ (l:List Int) (a1:Nat) (e1:Int),Z1c.l0 b t1 t2 (a:Int) e acc i=some ((a1:Int),e1,acc++l)∧a1≤8*b.length∧(e≠0→e1≠0)∧l.length≤m:=by
 intro m
 induction m with
 | zero =>
  intro acc a e i hi h0 hacc ha
  refine⟨[],a,e,?_,ha,fun h=>h,by simp⟩
  rw[Z1c.l0,if_neg (by rw[ht];simp;omega),sb,if_neg (by simp)]
  simp
 | succ m ih =>
  intro acc a e i hi h0 hacc ha
  by_cases he:e=0
  case neg =>
   refine⟨[],a,e,?_,ha,fun h=>h,by simp⟩
   rw[Z1c.l0,if_pos (by rw[ht];simp;omega),Za3,sb,sb,if_neg (by simpa using he)]
   simp
  subst he
  obtain⟨k,a1,e1,s1,s2,s3,s4,s5⟩:=Z9a hb (m:=65536) (by omega) ha 0
  rw[Z1c.l0,if_pos (by rw[ht];simp;omega),Za3,sb,sb,if_pos (by simp),show Z3.f b (a:Int) 0 65536=_ from s1,sb]
  dsimp only
  rw[chkB (by simp;omega),Za (n:=i+1) (by omega) (by omega)]
  obtain⟨l,a2,e2,r1,r2,r3,r4⟩:=ih (acc++[(k:Int)]) a1 e1 (i+1) (by omega) (by omega) (by simp;omega) s2
  exact⟨(k:Int)::l,a2,e2,by rw[r1];simp,r2,fun h=>absurd rfl h,by simp;omega⟩
theorem lod_l1_no (t1 t2:Int×Int×Int) (bl:List Int) (a e:Int) (acc:List Zy) (i:Int):Z1c.l1 b t1 t2 bl a e acc false i=some (a,e,acc,false):=by
 rw[Z1c.l1,if_neg (show ¬ (false=true) by simp)]
 split<;>rw[sb,if_neg (by simp)]
def sumH (l:List Zy):Nat:=(l.map fun x=>x.f3.length).sum
theorem Zd6 (x:Zy) (l:List Zy):sumH (x::l)=x.f3.length+sumH l:=by simp[sumH]
structure LR (x:Zy):Prop where
 key:x.f0.size≤1048576
 ap:Z6l x.f2.f0
 tl:x.f2.f0.length≤65536
 hf:∀ s∈x.f3,SOk s
theorem lod_l1_tot (hb:Src b) (t1 t2:Int×Int×Int) (bl:List Int) (n:Nat) (hn:n≤64) (ht:t2.1=(n:Int)):∀ (m:Nat) (acc:List Zy) (a:Nat) (e i:Int),i+m=n→0≤i→(acc.length:Int)≤i→a≤8*b.length →
  ∃ (l:List Zy         ) (a1:Nat) (e1:Int) (ok:Bool),         Z1c.l1 b t1 t2 bl (a:Int) e acc true i=some ((a1:Int),e1,acc++l,ok)∧a1≤8*b.length∧(e≠0→e1≠0)∧l.length≤m ∧
   (ok=true→e=0→e1=0→(∀ x∈l,LR x)∧a+sumH l≤a1):=by
 intro m
 induction m with
 | zero =>
  intro acc a e i hi h0 hacc ha
  refine⟨[],a,e,true,?_,ha,fun h=>h,by simp,fun _ _ _=>⟨by simp,by simp[sumH]⟩⟩
  rw[Z1c.l1,if_neg (by rw[ht];simp;omega),sb,if_neg (by simp)]
  simp
 | succ m ih =>
  intro acc a e i hi h0 hacc ha
  by_cases he:e=0
  case neg =>
   refine⟨[],a,e,true,?_,ha,fun h=>h,by simp,fun _ h=>absurd h he⟩
   rw[Z1c.l1,if_pos (by rw[ht];simp;omega),if_pos rfl,Za3,sb,sb,if_neg (by simpa using he)]
   simp
  subst he
  obtain⟨x,a1,e1,k1,k2,k3,k4,k5⟩:=Zao hb ha 0
  obtain⟨la,a2,e2,s1,s2,s3,s4,s5⟩:=Z9a hb (m:=1099511627776) (by omega) k2 e1
  obtain⟨z,a3,e3,u1,u2,u3,u4⟩:=take_any hb (m:=65536) (by omega) s2 e2
  obtain⟨l,ok,a4,e4,v1,v2,v3,v4⟩:=Zd8 hb u2 e3
  have hz:Z6l z∧z.length≤65536:=by
   rcases u4 with ⟨_,rfl⟩ | ⟨_,q1,q2,_⟩
   ·exact⟨Z6l.nil,by simp⟩
   ·exact⟨q2,q1⟩
  rw[Z1c.l1,if_pos (by rw[ht];simp;omega),if_pos rfl,Za3,sb,sb,if_pos (by simp),k1,sb]
  dsimp only
  rw[show Z3.f b (a1:Int) e1 1099511627776=_ from s1,sb]
  dsimp only
  rw[show Z0u.f b (a2:Int) e2 65536=_ from u1,sb]
  dsimp only
  rw[v1,sb]
  dsimp only
  rw[chkB (by simp;omega),Za (n:=i+1) (by omega) (by omega)]
  cases ok with
  | false =>
   rw[lod_l1_no]
   exact⟨[(⟨x,(la:Int),⟨z⟩,l⟩:Zy)],a4,e4,false,rfl,v2,fun h=>absurd rfl h,by simp,fun h=>absurd h (by simp)⟩
  | true =>
   obtain⟨D,d1,d2,d3,d4,d5⟩:=v4 rfl
   obtain⟨r,a5,e5,ok5,r1,r2,r3,r4,r5⟩:=ih (acc++[(⟨x,(la:Int),⟨z⟩,l⟩:Zy)]) a4 e4 (i+1) (by omega) (by omega) (by simp;omega) v2
   refine⟨(⟨x,(la:Int),⟨z⟩,l⟩:Zy)::r,a5,e5,ok5,by rw[r1];simp,r2,fun h=>absurd rfl h,by simp;omega,fun h1 _ h3 => ?_⟩
   have g4:e4=0:=by
    by_cases h:e4=0
    ·exact h
    ·exact absurd h3 (r3 h)
   have g3:e3=0:=by
    by_cases h:e3=0
    ·exact h
    ·exact absurd g4 (v3 h)
   have g2:e2=0:=by
    by_cases h:e2=0
    ·exact h
    ·exact absurd g3 (u3 h)
   have g1:e1=0:=by
    by_cases h:e1=0
    ·exact h
    ·exact absurd g2 (s4 h)
   obtain⟨q1,q2⟩:=r5 h1 g4 h3
   have b1:=adv ha k2 (k5 rfl g1)
   have b2:=adv k2 s2 (s5 g1 g2)
   have b3:a2≤a3:=by
    rcases u4 with ⟨h,_⟩ | ⟨_,_,_,h⟩
    ·exact absurd g3 h
    ·have:=adv s2 u2 h;omega
   have b4:=adv u2 v2 (d5 g3 g4)
   have b5:=chus_pos D d3
   rw[List.length_append] at b4
   have hll:l.length=D.flatten.length:=by rw[d1]
   refine⟨fun y hy => ?_,?_⟩
   ·rcases List.mem_cons.1 hy with rfl | hy
    ·refine⟨k3,hz.1,hz.2,fun s hs => ?_⟩
     have hs':s∈D.flatten:=by rw[← d1];exact hs
     obtain⟨c,hc,hsc⟩:=List.mem_flatten.1 hs'
     have hch:=d3 c hc
     exact⟨(hch.cok.ok s hsc).1,(hch.k s hsc).fits,(hch.cok.ok s hsc).2⟩
    ·exact q1 y hy
   ·rw[Zd6      ]
    show a+(l.length+sumH r)≤a5
    omega
theorem sumW_le:∀ (l:List Zy),sumW l=15000000*l.length+3300000*sumH l:=by
 intro l
 induction l with
 | nil=>simp[sumW,sumH]
 | cons x l ih=>rw[Zap,Zd6,ih,List.length_cons,lineW];omega
theorem sumH_mem:∀ (l:List Zy) (x:Zy),x∈l→x.f3.length≤sumH l:=by
 intro l
 induction l with
 | nil=>simp
 | cons y l ih =>
  intro x hx
  rw[Zd6]
  rcases List.mem_cons.1 hx with rfl | hx
  ·omega
  ·have:=ih x hx;omega
theorem load_tot (hb:Src b) (hl:b.length≤1500):∃ m e,Z1c.f b=some (m,e)∧((e=6∧m=⟨0,[],[]⟩)∨(e=0∧IM m∧Zar m=true∧sumW m.f2≤90000000000∧∃ f,Laid b f (imgB m))):=by
 unfold Z1c.f Z4g.f
 obtain⟨mk,a1,e1,s1,s2,s3,s4,s5⟩:=Z9a hb (m:=1099511627776) (by omega) (a:=0) (by omega) 0
 rw[sb,show Z3.f b 0 0 1099511627776=_ from s1,sb]
 dsimp only
 obtain⟨nb',a2,e2,t1,t2,t3,t4,t5⟩:=Z9a hb (m:=256) (by omega) s2 e1
 rw[show Z3.f b (a1:Int) e1 256=_ from t1,sb]
 dsimp only
 obtain⟨bl,a3,e3,u1,u2,u3,u4⟩:=lod_l0_tot hb ((mk:Int),(a1:Int),e1) ((nb':Int),(a2:Int),e2) nb' t3 rfl nb' [] a2 e2 0 (by omega) (by omega) (by simp) t2
 rw[u1,sb,List.nil_append]
 dsimp only
 obtain⟨nl,a4,e4,v1,v2,v3,v4,v5⟩:=Z9a hb (m:=64) (by omega) u2 e3
 rw[show Z3.f b (a3:Int) e3 64=_ from v1,sb]
 dsimp only
 obtain⟨ls,a5,e5,ok,w1,w2,w3,w4,w5⟩:=lod_l1_tot hb ((mk:Int),(a1:Int),e1) ((nl:Int),(a4:Int),e4) bl nl v3 rfl nl [] a4 e4 0 (by omega) (by omega) (by simp) v2
 rw[w1,sb,List.nil_append]
 show ∃ m e,tailL' b (a5:Int) e5 ok (⟨(mk:Int),bl,ls⟩:Zo)=some (m,e)∧_
 unfold tailL'
 cases ok with
 | false=>rw[if_pos (show(!false)=true from rfl),sb,if_pos rfl];exact⟨_,_,rfl,.inl ⟨rfl,rfl⟩⟩
 | true =>
  rw[if_neg (by simp)]
  obtain⟨r,a',e',hE⟩:=end_tot hb w2 e5
  rw[hE,sb]
  dsimp only
  by_cases hr:r=0
  case neg=>rw[if_pos (by simpa using hr),sb,if_pos rfl];exact⟨_,_,rfl,.inl ⟨rfl,rfl⟩⟩
  obtain⟨r1,r2,r3⟩:=end_rev hb w2 hE hr
  have g4:e4=0:=by
   by_cases h:e4=0
   ·exact h
   ·exact absurd r1 (w3 h)
  obtain⟨q1,q2⟩:=w5 rfl g4 r1
  have hsum:sumH ls≤12000:=by omega
  have hIM:IM ⟨(mk:Int),bl,ls⟩:=⟨by show bl.length≤_;omega,by show ls.length≤_;omega,fun x hx=>by
   have hx':x∈ls:=hx
   have h1:=q1 x hx'
   have h2:=sumH_mem ls x hx'
   exact⟨by have:=h1.key;omega,h1.ap,by have:=h1.tl;omega,by omega,fun s hs=>⟨(h1.hf s hs).f,by have:=(h1.hf s hs).v.pos.len;omega,by have:=(h1.hf s hs).v.neg.len;omega⟩⟩⟩
  have hW:sumW ls≤90000000000:=by rw[sumW_le];omega
  rw[if_neg (by simpa using hr),sound15 _ hIM,sb,sb]
  cases hR:Zar ⟨(mk:Int),bl,ls⟩ with
  | false=>rw[if_pos (show(!false)=true from rfl)];exact⟨_,_,rfl,.inl ⟨rfl,rfl⟩⟩
  | true =>
   obtain⟨b2,f2,x2,h2⟩:=store_eq hIM hR hW
   have h3:=imgB_len (il_of hIM hR hW)
   have h4:=h2.len
   have h5:=h2.lt
   rw[if_neg (by simp),x2,sb,if_neg (by simp)]
   dsimp only
   rw[eqbytes b2 b (by omega),sb,sb]
   by_cases hbb:b2=b
   ·subst hbb
    rw[if_neg (by simp)]
    exact⟨_,_,rfl,.inr ⟨rfl,hIM,hR,hW,f2,h2⟩⟩
   ·rw[if_pos (by simpa using hbb)]
    exact⟨_,_,rfl,.inl ⟨rfl,rfl⟩⟩
theorem prog_doc (c:Zs):prog (doc c)=c:=by
 obtain⟨f0,f1,f2,f3⟩:=c
 simp only[doc,prog,List.map_map]
 congr 1
 conv=>rhs;rw[← List.map_id f2]
 exact List.map_congr_left (fun x _=>rfl)
theorem lb_doc {c:Zs} (hc:CB c) (h:Z87 c=true):LB (doc c):=by
 have hk:=ek_of hc h
 refine⟨?_,?_,fun x hx => ?_,fun x hx => ?_⟩
 ·show c.f1.length≤_
  rcases hk with ⟨k,l,_⟩ | ⟨k,l,_,n,_⟩ | ⟨k,l,n⟩
  ·omega
  ·rw[n];simp
  ·rw[n.1];simp
 ·show(c.f2.map cBack).length≤_
  rw[List.length_map]
  rcases hk with ⟨k,l,_,n,_⟩ | ⟨k,l,_⟩ | ⟨k,l,n⟩
  ·rw[n];simp
  ·omega
  ·rw[n.2];simp
 ·have hx':x∈c.f1:=hx
  rcases hk with ⟨k,l,h1,_⟩ | ⟨k,l,_,n,_⟩ | ⟨k,l,n⟩
  ·have:=h1 x hx'
   exact⟨by have:=this.key;omega,by have h6:x.f2.f6.length≤512:=this.ok.v.pos.len;omega,by have h6:x.f2.f7.length≤512:=this.ok.v.neg.len;omega,this.ok.f⟩
  ·rw[n] at hx';simp at hx'
  ·rw[n.1] at hx';simp at hx'
 ·obtain⟨y,hy,rfl⟩:=List.mem_map.1 (show x∈c.f2.map cBack from hx)
  rcases hk with ⟨k,l,_,n,_⟩ | ⟨k,l,h1,_⟩ | ⟨k,l,n⟩
  ·rw[n] at hy;simp at hy
  ·have:=(h1 y hy).key;show y.f0.size≤_;omega
  ·rw[n.2] at hy;simp at hy
theorem entryReads_R (b:List Int) (hb:b.length≤140737488351232∧∀ y∈b,Rng 0 256 y):Z4x.f b=some true:=by
 unfold Z4x.f
 by_cases h:b.length>1500
 ·rw[if_pos (by simp;omega),awake15,sb]
 have hs:Src b:=⟨hb.2,by omega⟩
 rw[if_neg (by simp;omega)]
 obtain⟨c,e,E,hr⟩:=dec_tot15 hs
 rw[E,sb]
 dsimp only
 have first:((if(e==(0:Int))=true then((Z1n.f c)>>=fun t10216=>(Z1u.f t10216)>>=fun t10218=>if(!t10218)=true then(some true) else((Z1n.f c)>>=fun t10221=>(Z1f.f t10221)>>=fun t10223=>if(!((Z5l t10223).toList==(Z5l b).toList))=true then(some true) else(if(e != (0:Int))=true then(some (e != (6:Int))) else(some false)))) else(if(e != (0:Int))=true then(some (e != (6:Int))) else(some false))):Option (Bool))=some false:=by
  rcases hr with ⟨rfl,rfl⟩ | ⟨rfl,hc,hR,f,hL⟩
  ·rw[if_neg (by simp),if_pos (by simp)];rfl
  ·have hlb:=lb_doc hc hR
   have h1:c.f1.length≤1048576:=by have:=hlb.il;have h2:c.f1.length≤3000:=this;omega
   have h2:c.f2.length≤1048576:=by have:=hlb.cl;have h2:(c.f2.map cBack).length≤3000:=this;rw[List.length_map] at h2;omega
   obtain⟨y,f2,E2,hL2⟩:=renc15 (doc c) (by rw[prog_doc];exact ek_of hc hR)
   rw[prog_doc] at hL2
   have:=hL.unique hL2
   subst this
   rw[if_pos (by simp),from15 c h1 h2,sb,rright15 _ hlb,prog_doc,hR,sb,if_neg (by simp),sb,E2,sb,if_neg (by simp),if_neg (by simp)]
 rw[first,sb,if_neg (by simp)]
 obtain⟨m,e2,E2,hr2⟩:=load_tot hs (by omega)
 rw[E2,sb]
 dsimp only
 rcases hr2 with ⟨rfl,rfl⟩ | ⟨rfl,hm,hR,hW,f,hL⟩
 ·rw[if_pos (by simp),awake15,sb,if_pos rfl,sb];rfl
 ·obtain⟨y,f2,E3,hL2⟩:=rstore_eq (il_of hm hR hW)
  have:=hL.unique hL2
  subst this
  rw[if_neg (by simp),awake15,sb,if_pos rfl,seen15 m hm.ll (fun x hx=>(hm.lk x hx).tl),sb,rsound15 m hm,sb,hR,if_pos rfl,sb,E3,sb,sb]
  simp
end Go.Proofs.YtinhldbfifpakaaGreat.PvGL2
