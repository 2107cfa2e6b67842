import Derived.Test.YtinhldbfifpakaaGreatPxEntryChanges18
set_option linter.unusedVariables false
set_option linter.unusedSimpArgs false
namespace Go.Proofs.YtinhldbfifpakaaGreat.PvGL1
open Go Go.Pv Go.Pv.GS Go.IntKind
abbrev Z5l (r:Z8):Prop:=0≤r.f0∧r.f0≤r.f1∧r.f1≤1099511627776
def HasL (l:List Z8) (t:Int):Prop:=∃ r∈l,Z5l r∧r.f0≤t∧t≤r.f1
structure Zbq (l:List Z8):Prop where
 right:∀ r∈l,Z5l r
 gap:l.Pairwise (fun a b=>a.f1+1<b.f0)
theorem Zbq.nil:Zbq []:=⟨by simp,List.Pairwise.nil⟩
theorem Zbq.tail {x:Z8} {l:List Z8} (h:Zbq (x::l)):Zbq l:=⟨fun r hr=>h.right r (by simp[hr]),(List.pairwise_cons.1 h.gap).2⟩
theorem Zbq.head {x:Z8} {l:List Z8} (h:Zbq (x::l)):Z5l x:=h.right x (by simp)
end Go.Proofs.YtinhldbfifpakaaGreat.PvGL1
set_option linter.unusedVariables false
set_option linter.unusedSimpArgs false
namespace Go.Proofs.YtinhldbfifpakaaGreat.PvGL1
open Go Go.Pv Go.Pv.GS Go.IntKind
theorem t_right_eq (r:Z8):Z31.f r=some (decide (Z5l r)):=by
 unfold Z31.f
 by_cases h1:0≤r.f0
 ·by_cases h2:r.f0≤r.f1<;>simp[h1,h2,Z5l]
 ·simp[h1,Z5l]
theorem bad_eq (r:Z8):Z4k.f r=some (!decide (Z5l r)):=by
 unfold Z4k.f;rw[t_right_eq,sb]
theorem clone_r (l:List Z8) (h:l.length<1000000000):Z1a.f l=some l:=by
 unfold Z1a.f;rw[chkB (by simp;omega)]
theorem del_inst:Zw.f=deleteF.f Z4k.f ⟨0,0⟩:=by kernel_rfl
structure OfI (pre out:List Z8):Prop where
 apart:Zbq out
 has:∀ t,HasL out t↔HasL pre t
 seen:∀ o∈out,∃ p∈pre,p.f0=o.f0
 len:out.length≤pre.length
theorem ranges_eq (s:Z3q) (h:s.f0.length<1000000000):Z30.f s=some s.f0:=by
 unfold Z30.f;rw[clone_r _ h,sb]
end Go.Proofs.YtinhldbfifpakaaGreat.PvGL1
set_option linter.unusedVariables false
set_option linter.unusedSimpArgs false
namespace Go.Proofs.YtinhldbfifpakaaGreat.PvGL1
open Go Go.Pv Go.Pv.GS Go.IntKind
def layB:Int→List Z8→List Bool
 | _,[]=>[]
 | last,r::l=>cnt2 (r.f0-last).toNat++(cnt2 (r.f1-r.f0).toNat++layB (r.f1+2) l)
def Zd3 (last:Int) (l:List Z8):Prop:=0≤last∧last≤1099511627778∧Zbq l∧∀ r∈l,last≤r.f0
theorem Zd3.next {last:Int} {r:Z8} {l:List Z8} (h:Zd3 last (r::l)):Zd3 (r.f1+2) l :=
 ⟨by have:=h.2.2.1.head;omega,by have:=h.2.2.1.head;omega,h.2.2.1.tail,fun x hx=>by have:=(List.pairwise_cons.1 h.2.2.1.gap).1 x hx;omega⟩
theorem layB_len:∀ (l:List Z8) (last:Int),(layB last l).length≤142*l.length
 | [],_=>by simp[layB]
 | r::l,last=>by
  have:=layB_len l (r.f1+2)
  have:=Z14 (r.f0-last).toNat
  have:=Z14 (r.f1-r.f0).toNat
  simp only[layB,List.length_append,List.length_cons];omega
theorem take_l0 {b:List Int} (hb:Src b) (t:Int×Int×Int) (x:List Z8) (hx:x.length<1000) (ht:t.1=(x.length:Int)) (z:List Bool):∀ (suf pre:List Z8) (a:Nat) (last i:Int),x=pre++suf→i=(pre.length:Int)→Zd3 last suf→a≤8*b.length →
  (Z06 b).drop a=layB last suf++z→∃ a':Nat,Z1v.l0 b t (a:Int) 0 pre last i=some ((a':Int),0,x)∧a'≤8*b.length∧(Z06 b).drop a'=z:=by
 intro suf
 induction suf with
 | nil =>
  intro pre a last i h1 hi hB ha h
  rw[List.append_nil] at h1
  subst h1
  rw[Z1v.l0,if_neg (by simp;omega),sb,if_neg (by simp)]
  exact⟨a,rfl,ha,by simpa[layB] using h⟩
 | cons r suf ih =>
  intro pre a last i h1 hi hB ha h
  have hlen:x.length=pre.length+(suf.length+1):=by rw[h1];simp
  have hr:=hB.2.2.1.head
  have hr2:=hB.2.2.2 r (by simp)
  have hb1:=hB.1
  have hb2:=hB.2.1
  rw[layB,List.append_assoc,List.append_assoc] at h
  have l1:=congrArg List.length h
  simp only[List.length_drop,Z0u,List.length_append] at l1
  have s1:=Z46 hb (n:=(r.f0-last).toNat) (m:=1099511627776) (by omega) (by omega) ha h
  have d1:(Z06 b).drop (a+(cnt2 (r.f0-last).toNat).length)=cnt2 (r.f1-r.f0).toNat++(layB (r.f1+2) suf++z):=by
   rw[← List.drop_drop,h,List.drop_left]
  have s2:=Z46 hb (n:=(r.f1-r.f0).toNat) (m:=1099511627776) (by omega) (by omega) (by omega) d1
  have d2:(Z06 b).drop (a+(cnt2 (r.f0-last).toNat).length+(cnt2 (r.f1-r.f0).toNat).length)=layB (r.f1+2) suf++z:=by
   rw[← List.drop_drop,d1,List.drop_left]
  unfold Z1v.l0 Zq.f
  rw[if_pos (by simp;omega),sb,sb,if_pos (by simp),show Z9.f b (a:Int) 0 1099511627776=_ from s1,sb]
  dsimp only
  rw[show Z9.f b ((a+(cnt2 (r.f0-last).toNat).length:Nat):Int) 0 1099511627776=_ from s2,sb]
  dsimp only
  rw[Zc (n:=last+((r.f0-last).toNat:Int)) (by omega) (by omega),Zc (n:=last+((r.f0-last).toNat:Int)+((r.f1-r.f0).toNat:Int)) (by omega) (by omega),if_neg (by simp;omega),sb]
  dsimp only
  have er:(⟨last+((r.f0-last).toNat:Int),last+((r.f0-last).toNat:Int)+((r.f1-r.f0).toNat:Int)⟩:Z8)=r:=by
   have e0:last+((r.f0-last).toNat:Int)=r.f0:=by omega
   have e1:r.f0+((r.f1-r.f0).toNat:Int)=r.f1:=by omega
   rw[e0,e1]
  rw[er,chkB (by simp;omega),show last+((r.f0-last).toNat:Int)+((r.f1-r.f0).toNat:Int)=r.f1 by omega,Zc (n:=r.f1+2) (by omega) (by omega),Zc (n:=i+1) (by omega) (by omega)]
  exact ih (pre++[r]) _ (r.f1+2) (i+1) (by simp[h1]) (by simp;omega) hB.next (by omega) d2
end Go.Proofs.YtinhldbfifpakaaGreat.PvGL1
set_option linter.unusedVariables false
set_option linter.unusedSimpArgs false
set_option maxRecDepth 10000
namespace Go.Proofs.YtinhldbfifpakaaGreat.PvGL1
open Go Go.Pv Go.Pv.GS Go.IntKind
theorem lay9_l0 (l:List Z8) (hl:l.length<1000):∀ (suf pre:List Z8) (b:List Int) (f:Nat) (s:List Bool) (last i:Int),l=pre++suf→i=(pre.length:Int)→Zd3 last suf→s.length+142*suf.length<700000000→Laid b f s →
  ∃ (b':List Int) (f':Nat),Z15.l0 ⟨l⟩ b (f:Int) last i=some (b',(f':Int))∧Laid b' f' (s++layB last suf):=by
 intro suf
 induction suf with
 | nil =>
  intro pre b f s last i h1 hi hB hs h
  rw[Z15.l0,if_neg (by rw[h1];simp[hi])]
  exact⟨b,f,rfl,by simpa[layB] using h⟩
 | cons r suf ih =>
  intro pre b f s last i h1 hi hB hs h
  have hlen:l.length=pre.length+(suf.length+1):=by rw[h1];simp
  have hr:=hB.2.2.1.head
  have hr2:=hB.2.2.2 r (by simp)
  have hb1:=hB.1
  have hb2:=hB.2.1
  have hc1:=Z14 (r.f0-last).toNat
  have hc2:=Z14 (r.f1-r.f0).toNat
  simp only[List.length_cons] at hs
  rw[Z15.l0,if_pos (by simp;omega),Z0a h1 hi,sb,Zc (n:=r.f0-last) (by omega) (by omega),Zc (n:=r.f1-r.f0) (by omega) (by omega),Z3f (n:=r.f0-last) (by omega) (by omega),Z3f (n:=r.f1-r.f0) (by omega) (by omega),Zc (n:=r.f1+2) (by omega) (by omega),Zc (n:=i+1) (by omega) (by omega)]
  obtain⟨b1,f1,e1,h1'⟩:=Z67 h (by omega) (n:=r.f0-last) (by omega) (by omega)
  obtain⟨b2,f2,e2,h2'⟩:=Z67 h1' (by simp;omega) (n:=r.f1-r.f0) (by omega) (by omega)
  rw[e1,sb]
  dsimp only
  rw[e2,sb]
  obtain⟨b3,f3,e3,h3'⟩:=ih (pre++[r]) b2 f2 _ (r.f1+2) (i+1) (by simp[h1]) (by simp;omega) hB.next (by simp;omega) h2'
  exact⟨b3,f3,e3,by rw[layB];simpa using h3'⟩
theorem lay9_eq {b:List Int} {f:Nat} {s:List Bool} (hL:Laid b f s) (hs:s.length<600000000) (l:List Z8) (hl:l.length<1000) (h:Zbq l):∃ (b':List Int) (f':Nat),Z15.f ⟨l⟩ b (f:Int)=some (b',(f':Int))∧Laid b' f' (s++(cnt2 l.length++layB 0 l)):=by
 have hc:=Z14 l.length
 have hB:Zd3 0 l:=⟨by omega,by omega,h,fun r hr=>(h.right r hr).1⟩
 unfold Z15.f
 dsimp only
 rw[Z3f (by omega) (by omega)]
 obtain⟨b1,f1,e1,h1⟩:=Z67 (n:=(l.length:Int)) hL (by omega) (by omega) (by omega)
 rw[e1,sb]
 dsimp only
 rw[Int.toNat_natCast] at h1
 obtain⟨b2,f2,e2,h2⟩:=lay9_l0 l hl l [] b1 f1 _ 0 0 rfl rfl hB (by rw[List.length_append];omega) h1
 rw[e2,sb]
 exact⟨b2,f2,rfl,by rw[← List.append_assoc];exact h2⟩
theorem take_at {b:List Int} (hb:Src b) (x:List Z8) {m:Nat} (hm:m<1000) (hx:x.length≤m) (h:Zbq x) {a:Nat} (ha:a≤8*b.length) (z:List Bool) (hd:(Z06 b).drop a=(cnt2 x.length++layB 0 x)++z) :
  Z1v.f b (a:Int) 0 (m:Int)=some (⟨x⟩,((a+(cnt2 x.length++layB 0 x).length:Nat):Int),0):=by
 have hB:Zd3 0 x:=⟨by omega,by omega,h,fun r hr=>(h.right r hr).1⟩
 have l1:=congrArg List.length hd
 simp only[List.length_drop,Z0u,List.length_append] at l1
 have hd1:(Z06 b).drop a=cnt2 x.length++(layB 0 x++z):=by rw[hd,List.append_assoc]
 have hd2:(Z06 b).drop (a+(cnt2 x.length).length)=layB 0 x++z:=by rw[← List.drop_drop,hd1,List.drop_left' rfl]
 have s1:=Z46 hb (n:=x.length) (m:=m) hx (by omega) ha hd1
 unfold Z1v.f Zq.f
 rw[s1,sb]
 dsimp only
 obtain⟨a',e,h1,h2⟩:=take_l0 hb ((x.length:Int),((a+(cnt2 x.length).length:Nat):Int),0) x (by omega) rfl z x [] (a+(cnt2 x.length).length) 0 0 rfl rfl hB (by omega) hd2
 rw[e,sb]
 dsimp only
 rw[sb,if_neg (by simp)]
 have l2:=congrArg List.length h2
 simp only[List.length_drop,Z0u] at l2
 congr 4
 rw[List.length_append]
 omega
theorem apart_one {r:Z8} (h:Z5l r):Zbq [r]:=⟨by simpa using h,by simp⟩
theorem one_sort (r:Z8):Z0l.f [r]=some [r]:=by
 have hins:Ze.f [r] 0 1=some [r]:=by
  unfold Ze.f
  rw[Ze.l0,Zc (n:=0+1) (by omega) (by omega),if_neg (by simp),sb]
 have hlen:Z60.f (u64.wrap (([r]:List Z8).length:Int))=some 1:=by
  show Z60.f (u64.wrap 1)=some 1
  cbv
 unfold Z0l.f
 rw[hlen,sb]
 unfold Zo.f
 show((Zo.l0 [r] 0 1 1 ())>>=fun rr=>some rr)>>=(fun t=>some t)=some [r]
 unfold Zo.l0
 rw[Zc (n:=1-0) (by omega) (by omega),if_pos (by simp),hins,sb,sb,sb]
theorem of_one {r:Z8} (h:Z5l r):Z4o.f [r]=some ⟨[r]⟩:=by
 unfold Z4o.f
 rw[clone_r [r] (by simp),sb,del_inst,deleteF_eq bad_eq _ _ (by simp),sb]
 have hfil:([r].filter fun x => !(!decide (Z5l x)))=[r]:=by simp[h]
 rw[hfil,one_sort,sb,Z4o.l0,if_pos (by simp),show at? [r] (0:Int)=some r from rfl,sb,if_neg (by simp),sb,if_neg (by simp),chkB (by simp),sb,Zc (n:=0+1) (by omega) (by omega),Z4o.l0,if_neg (by simp),sb]
 simp
end Go.Proofs.YtinhldbfifpakaaGreat.PvGL1
