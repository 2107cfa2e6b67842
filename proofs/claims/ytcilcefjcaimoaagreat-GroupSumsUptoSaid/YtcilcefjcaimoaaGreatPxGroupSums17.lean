import Derived.Test.YtcilcefjcaimoaaGreatPxGroupSums16
set_option linter.unusedVariables false
set_option linter.unusedSimpArgs false
set_option maxRecDepth 10000
namespace Go.Proofs.YtcilcefjcaimoaaGreat.PvGQ
open Go Go.Pv Go.Pv.GS Go.IntKind
theorem sums2_l0 (l:List Z1) (hl:l.length<1000000) (hv:∀ h∈l,Z0l h∧Fits h):∀ (suf pre:List Z1) (o:Z1) (i:Int),l.drop 1=pre++suf→i=(pre.length:Int)→0<l.length→Z0l o→Fits o →
  ∃ r,Z0u.l0 l (o.f0,o.f1,o.f2,o.f3,o.f4,o.f5,o.f6,o.f7,i)=some r∧Z37.l0 l (o.f0,o.f1,o.f2,o.f3,o.f4,o.f5,o.f6,o.f7,i+1)=some r∧((∃ e,e≠0∧r = .inl (h0,e))∨∃ o':Z1,r = .inr (o'.f0,o'.f1,o'.f2,o'.f3,o'.f4,o'.f5,o'.f6,o'.f7)∧Z0l o'∧Fits o'):=by
 intro suf
 induction suf with
 | nil =>
  intro pre o i h1 hi hp vo fo;have hlen:l.length=pre.length+1:=by have:=congrArg List.length h1;simp at this;omega
  refine⟨_,?_,?_,.inr ⟨o,rfl,vo,fo⟩⟩
  ·rw[       Z0u.l0]
   try dsimp only
   rw[if_neg (by simp;omega)]
  ·rw[      Z37.l0]
   try dsimp only
   rw[if_neg (by simp;omega)]
 | cons x suf ih =>
  intro pre o i h1 hi hp vo fo;have hlen:l.length=pre.length+(suf.length+1)+1:=by have:=congrArg List.length h1;simp at this;omega
  have hx:x∈l:=List.mem_of_mem_drop (i:=1) (by rw[h1];simp);have vx:=hv x hx;have htake:(l.drop (Int.toNat (1:Int))).take (Int.toNat (l.length:Int)-Int.toNat (1:Int))=l.drop 1:=by
   simp only[Int.toNat_one,Int.toNat_natCast];rw[List.take_of_length_le (by simp)]
  have hat2:at? l (i+1)=some x:=by
   obtain⟨z,l',rfl⟩:∃ z l',l=z::l':=by
    cases l with
    | nil=>simp at hp
    | cons z l'=>exact⟨z,l',rfl⟩
   simp only[List.drop_succ_cons,List.drop_zero] at h1;exact Z0a (pre:=z::pre) (suf:=suf) (by simp[h1]) (by simp;omega)
  obtain⟨r,e',A1,A2,hA⟩:=add_any o x vo fo vx.1 vx.2;have P:Z0u.l0 l (o.f0,o.f1,o.f2,o.f3,o.f4,o.f5,o.f6,o.f7,i)=if e'=0 then Z0u.l0 l (r.f0,r.f1,r.f2,r.f3,r.f4,r.f5,r.f6,r.f7,i+1) else some (.inl (h0,e')):=by
   conv=>lhs;rw[Z0u.l0]
   try dsimp only
   rw[htake,if_pos (by simp;omega),Z0a h1 hi,sb,A1,sb,Ze (n:=i+1) (by omega) (by omega)];by_cases h:e'=0<;>simp[h,h0]
  have R:Z37.l0 l (o.f0,o.f1,o.f2,o.f3,o.f4,o.f5,o.f6,o.f7,i+1)=if e'=0 then Z37.l0 l (r.f0,r.f1,r.f2,r.f3,r.f4,r.f5,r.f6,r.f7,i+1+1) else some (.inl (h0,e')):=by
   conv=>lhs;rw[Z37.l0]
   try dsimp only
   rw[if_pos (by simp;omega),hat2,sb,A2,sb,Ze (n:=i+1+1) (by omega) (by omega)];by_cases h:e'=0<;>simp[h,h0]
  rw[P,R];rcases hA with ⟨rfl,vr,fr⟩ | ⟨rfl,he⟩
  ·rw[if_pos rfl,if_pos rfl];exact ih (pre++[x]) r (i+1) (by simp[h1]) (by simp;omega) hp vr fr
  ·rw[if_neg he,if_neg he];exact⟨_,rfl,rfl,.inl ⟨_,he,rfl⟩⟩
theorem sum_same2 (l:List Z1) (hl:l.length<1000000) (hv:∀ h∈l,Z0l h∧Fits h):∃ r e,Z0u.f l=some (r,e)∧Z37.f l=some (r,e)∧(e=0→Z0l r∧Fits r):=by
 unfold Z0u.f Z37.f;cases l with
 | nil=>exact⟨_,_,rfl,rfl,fun h=>absurd h (by decide)⟩
 | cons x l =>
  have vx:=hv x (by simp);have hlx:=Z7b (.inr vx.1);rw[if_neg (by simp;omega),if_neg (by simp;omega),show at? (x::l) 0=some x from rfl,sb,sb,Z4m x hlx.1 hlx.2,sb,chkB (by simp;omega)];obtain⟨r,r1,r2,hr⟩:=sums2_l0 (x::l) hl hv l [] x 0 rfl rfl (by simp) vx.1 vx.2;rw[r1,show(1:Int)=0+1 from rfl,r2,sb];rcases hr with ⟨e,he,rfl⟩ | ⟨o,rfl,vo,fo⟩
  ·exact⟨_,_,rfl,rfl,fun h=>absurd h he⟩
  ·exact⟨_,_,rfl,rfl,fun _=>⟨vo,fo⟩⟩
abbrev gone (a:Z0m) (j:Bool) (n:List ByteArray) (g:List Zi):=Zy.f a.f0 a.f1 a.f2 a.f3 a.f4 a.f5 a.f6 j n g
theorem one_l0 (a:Z0m) (j:Bool) (n:List ByteArray) (l:List Zi) (hl:l.length≤400) (hL:∀ s∈l,Lit s.f1):∀ (suf pre:List Zi) (o:List Z1) (i:Int),l=pre++suf→i=(pre.length:Int)→o.length≤pre.length→(∀ h∈o,Z0l h∧Fits h) →
  (∃ e,e≠0∧Zy.l0 a.f0 a.f1 a.f2 a.f3 a.f4 a.f5 a.f6 j n l o i=some (.inl (ans0,e))∧Z2w.l0 a l o i=some (.inl (ra ans0,e))) ∨
  (∃ o',o'.length≤l.length∧(∀ h∈o',Z0l h∧Fits h)∧Zy.l0 a.f0 a.f1 a.f2 a.f3 a.f4 a.f5 a.f6 j n l o i=some (.inr o')∧Z2w.l0 a l o i=some (.inr o')):=by
 intro suf
 induction suf with
 | nil =>
  intro pre o i h1 hi ho hv;rw[List.append_nil] at h1;subst h1;rw[Zy.l0,if_neg (by simp[hi]),Z2w.l0,if_neg (by simp[hi])];exact .inr ⟨o,ho,hv,rfl,rfl⟩
 | cons s suf ih =>
  intro pre o i h1 hi ho hv;have hlen:l.length=pre.length+(suf.length+1):=by rw[h1];simp
  obtain⟨x,e,e1,e2,_,hx⟩:=of_same a s.f1 (hL s (by rw[h1];simp));have e1':Z1r.f (⟨a.f0,a.f1,a.f2,(⟨a.f3,a.f4⟩:Zx),a.f5,a.f6⟩:Z1d) s.f1=some (x,e):=e1;have hch:(o.length+[x].length)*96≤140737488355328:=by simp;omega
  have A:Zy.l0 a.f0 a.f1 a.f2 a.f3 a.f4 a.f5 a.f6 j n l o i=if e=30∧l.length>1 then Zy.l0 a.f0 a.f1 a.f2 a.f3 a.f4 a.f5 a.f6 j n l o (i+1) else if e≠0 then some (.inl (ans0,e)) else Zy.l0 a.f0 a.f1 a.f2 a.f3 a.f4 a.f5 a.f6 j n l (o++[x]) (i+1):=by
   conv=>lhs;rw[Zy.l0]
   rw[if_pos (by simp;omega),Z0a h1 hi,sb,e1',sb,Ze (by omega) (by omega)];dsimp only;by_cases h30:e=30
   ·subst h30
    by_cases hb:l.length>1
    ·rw[if_pos (by simp),sb,if_pos (by simp;omega),sb,if_pos ⟨rfl,hb⟩]
    ·rw[if_pos (by simp),sb,if_neg (by simp;omega),if_pos (by simp),sb,if_neg (fun h=>hb h.2),if_pos (by decide)]
   ·rw[if_neg (show ¬ (e=30∧l.length>1) from fun h=>h30 h.1),if_neg (show ¬ ((e==(30:Int))=true) by simpa using h30),sb,if_neg (show ¬ (false=true) by simp)]
    by_cases h0:e=0
    ·rw[if_neg (show ¬ (e≠0) from fun h=>h h0),if_neg (show ¬ ((e != (0:Int))=true) by simpa using h0),chkB hch,sb]
    ·rw[if_pos (show e≠0 from h0),if_pos (show(e != (0:Int))=true by simpa using h0),sb]
  have R:Z2w.l0 a l o i=if e=30∧l.length>1 then Z2w.l0 a l o (i+1) else if e≠0 then some (.inl (ra ans0,e)) else Z2w.l0 a l (o++[x]) (i+1):=by
   conv=>lhs;rw[Z2w.l0]
   rw[if_pos (by simp;omega),Z0a h1 hi,sb,e2,sb,Ze (by omega) (by omega)];dsimp only;by_cases h30:e=30
   ·subst h30
    by_cases hb:l.length>1
    ·rw[if_pos (by simp),sb,if_pos (by simp;omega),sb,if_pos ⟨rfl,hb⟩]
    ·rw[if_pos (by simp),sb,if_neg (by simp;omega),if_pos (by simp),sb,if_neg (fun h=>hb h.2),if_pos (by decide)]
   ·rw[if_neg (show ¬ (e=30∧l.length>1) from fun h=>h30 h.1),if_neg (show ¬ ((e==(30:Int))=true) by simpa using h30),sb,if_neg (show ¬ (false=true) by simp)]
    by_cases h0:e=0
    ·rw[if_neg (show ¬ (e≠0) from fun h=>h h0),if_neg (show ¬ ((e != (0:Int))=true) by simpa using h0),chkB hch,sb]
    ·rw[if_pos (show e≠0 from h0),if_pos (show(e != (0:Int))=true by simpa using h0),sb]
  rw[A,R];by_cases c1:e=30∧l.length>1
  ·rw[if_pos c1,if_pos c1]
   exact ih (pre++[s]) o (i+1) (by simp[h1]) (by simp;omega) (by simp;omega) hv
  ·rw[if_neg c1,if_neg c1]
   by_cases h0:e=0
   ·rw[if_neg (by simpa using h0),if_neg (by simpa using h0)]
    refine ih (pre++[s]) (o++[x]) (i+1) (by simp[h1]) (by simp;omega) (by simp;omega) (fun h hh => ?_);rcases List.mem_append.1 hh with hh | hh
    ·exact hv h hh
    ·simp at hh;subst hh;exact hx h0
   ·rw[if_pos h0,if_pos h0]
    exact .inl ⟨e,h0,rfl,rfl⟩
theorem one_same (a:Z0m) (j:Bool) (n:List ByteArray) (l:List Zi) (hl:l.length≤400) (hL:∀ s∈l,Lit s.f1) (hp:U64 a.f1) (ho:U64 a.f2) :
  ∃ x e,gone a j n l=some (x,e)∧Z2w.f a l=some (ra x,e)∧Z6e x.f0:=by
 unfold gone Zy.f Z2w.f;rcases one_l0 a j n l hl hL l [] [] 0 rfl rfl (Nat.le_refl _) (fun h hh=>nomatch hh) with ⟨e,he,e1,e2⟩ | ⟨o,hol,hov,e1,e2⟩
 ·rw[e1,e2,sb,sb]
  exact⟨ans0,e,rfl,rfl,by simp[Z6e]⟩
 ·rw[e1,e2,sb,sb]
  dsimp only;obtain⟨r,e,s1,s2,hr⟩:=sum_same2 o (by omega) hov;rw[s1,s2,sb,sb];dsimp only;by_cases h0:e=0
  ·obtain⟨v,f⟩:=hr h0
   obtain⟨x,e',f1,f2,f3⟩:=finish_same a v f hp ho;rw[if_neg (by simpa using h0),if_neg (by simpa using h0),show Z0h.f (⟨a.f0,a.f1,a.f2,(⟨a.f3,a.f4⟩:Zx),a.f5,a.f6⟩:Z1d) r=some (x,e') from f1,f2,sb,sb];exact⟨x,e',rfl,rfl,f3⟩
  ·rw[if_pos (by simpa using h0),if_pos (by simpa using h0)]
   exact⟨ans0,e,rfl,rfl,by simp[Z6e]⟩
def oneP (a:Z0m) (j:Bool) (n:List ByteArray) (g:List Zi):Z7×Int:=(gone a j n g).getD (ans0,0)
theorem oneP_eq (a:Z0m) (j:Bool) (n:List ByteArray) (l:List Zi) (hl:l.length≤400) (hL:∀ s∈l,Lit s.f1) (hp:U64 a.f1) (ho:U64 a.f2) :
  gone a j n l=some (oneP a j n l)∧Z2w.f a l=some (ra (oneP a j n l).1,(oneP a j n l).2)∧Z6e (oneP a j n l).1.f0:=by
 obtain⟨x,e,e1,e2,e3⟩:=one_same a j n l hl hL hp ho;have:oneP a j n l=(x,e):=by unfold oneP;rw[e1];rfl
 rw[this];exact⟨e1,e2,e3⟩
def rowP (a:Z0m) (j:Bool) (n:List ByteArray) (l:List Zi) (k:List Zh):Z16:=⟨k,(oneP a j n (grp (fun s=>keyL j n s.f0) l k)).1,(oneP a j n (grp (fun s=>keyL j n s.f0) l k)).2⟩
structure Ser (l:List Zi):Prop where
 len:l.length≤400
 lab:∀ s∈l,s.f0.length≤1048576
 lit:∀ s∈l,Lit s.f1
theorem of_rows (a:Z0m) (j:Bool) (n:List ByteArray) (hn:n.length<1000) (l:List Zi) (h:Ser l) (hp:U64 a.f1) (ho:U64 a.f2) (ks:List (List Zh)) (hk:Keys (fun s=>keyL j n s.f0) l ks):∀ (suf pre:List (List Zh)) (i:Int),ks=pre++suf→i=(pre.length:Int) →
  Z0g.l0 a.f0 a.f1 a.f2 a.f3 a.f4 a.f5 a.f6 j n (ks.map (grp (fun s=>keyL j n s.f0) l)) (pre.map (rowP a j n l)) i=some (ks.map (rowP a j n l)):=by
 intro suf;have hlk:=hk.len;have hll:=h.len
 induction suf with
 | nil=>intro pre i h1 hi;rw[Z0g.l0,if_neg (by rw[h1];simp[hi]),h1,List.append_nil]
 | cons k suf ih =>
  intro pre i h1 hi;have hlen:ks.length=pre.length+(suf.length+1):=by rw[h1];simp
  have hk1:k∈ks:=by rw[h1];simp
  obtain⟨s,t,g1,g2,g3⟩:=hk.ne hk1;obtain⟨o1,o2,o3⟩:=oneP_eq a j n (grp (fun s=>keyL j n s.f0) l k) (Nat.le_trans (grp_len ..) h.len) (fun s hs=>h.lit s (Z7t hs).1) hp ho;have hg:(ks.map (grp (fun s=>keyL j n s.f0) l))[pre.length]? = some (grp (fun s=>keyL j n s.f0) l k):=by
   rw[List.getElem?_map,h1,List.getElem?_append_right (Nat.le_refl _)];simp
  have hs0:at? (grp (fun s=>keyL j n s.f0) l k) 0=some s:=by rw[g1];rfl
  have hkl:k.length≤1048576:=by
   have:=keyL_len j n s.f0;have:=h.lab s g3;have g2':keyL j n s.f0=k:=g2;rw[← g2'];omega
  rw[Z0g.l0,if_pos (by simp;omega),Z9k hi hg,sb,show Zy.f a.f0 a.f1 a.f2 a.f3 a.f4 a.f5 a.f6 j n (grp (fun s=>keyL j n s.f0) l k)=_ from o1,sb,hs0,sb,
   gkey _ _ _ _ _ _ _ j n s (h.lab s g3) hn,sb,show keyL j n s.f0=k from g2,clone_l k (by unfold Fit;omega),sb,chkB (by simp;omega),Ze (by omega) (by omega)]
  have:=ih (pre++[k]) (i+1) (by simp[h1]) (by simp;omega);rw[List.map_append] at this;exact this
theorem of_eq (a:Z0m) (j:Bool) (n:List ByteArray) (hn:n.length<1000) (l:List Zi) (h:Ser l) (hp:U64 a.f1) (ho:U64 a.f2) (hk0:0≤a.f0∧a.f0≤5) :
  ∃ ks,Keys (fun s=>keyL j n s.f0) l ks∧Z0g.f a.f0 a.f1 a.f2 a.f3 a.f4 a.f5 a.f6 j n l=some (ks.map (rowP a j n l),0):=by
 obtain⟨ks,hk,e⟩:=groups_spec a.f0 a.f1 a.f2 a.f3 a.f4 a.f5 a.f6 j n hn l (by have:=h.len;omega) h.lab;refine⟨ks,hk,?_⟩;unfold Z0g.f;rw[if_neg (by simp;omega),sb,if_neg (by simp;omega),e,sb];have:=of_rows a j n hn l h hp ho ks hk ks [] 0 rfl rfl;rw[List.map_nil] at this;rw[this,sb]
theorem awake20:Z2t.f=some true:=by cbv
abbrev RL (l:List Zi):Prop:=l.length≤1048576∧∀ s∈l,RSeries s
theorem light20_l1 (l:List Zi) (b:Zi) (hb:RSeries b) (c:Int):∀ (suf pre:List Zv) (x i:Int),b.f1=pre++suf→i=(pre.length:Int)→0≤x→x+2097153*(suf.length:Int)≤9000000000000000000 →
  ∃ x',Z13.l1 l b c x i=some x'∧x+(suf.length:Int)≤x'∧x'≤x+2097153*(suf.length:Int):=by
 intro suf;have hbl:=hb.r1.1
 induction suf with
 | nil=>intro pre x i h1 hi h0 hx;rw[Z13.l1,if_neg (by rw[h1];simp[hi])];exact⟨x,rfl,by simp,by simp⟩
 | cons s suf ih =>
  intro pre x i h1 hi h0 hx;have hlen:b.f1.length=pre.length+(suf.length+1):=by rw[h1];simp
  have hs:=hb.r1.2 s (by rw[h1];simp);have h6:=hs.r1.r6.1;have h7:=hs.r1.r7.1;simp only[List.length_cons] at hx ⊢;rw[Z13.l1,if_pos (by simp;omega),Z0a h1 hi,sb,Ze (n:=(1:Int)+(s.f1.f6.length:Int)) (by omega) (by omega),Ze (n:=(1:Int)+(s.f1.f6.length:Int)+(s.f1.f7.length:Int)) (by omega) (by omega),Ze (n:=x+((1:Int)+(s.f1.f6.length:Int)+(s.f1.f7.length:Int))) (by omega) (by omega),Ze (n:=i+1) (by omega) (by omega)];obtain⟨x',e,g1,g2⟩:=ih (pre++[s]) (x+((1:Int)+(s.f1.f6.length:Int)+(s.f1.f7.length:Int))) (i+1) (by simp[h1]) (by simp;omega) (by omega) (by omega);exact⟨x',e,by omega,by omega⟩
def serW:List Zi→Int
 | []=>0
 | s::l=>1+(s.f1.length:Int)+serW l
theorem serW_len:∀ l:List Zi,(l.length:Int)≤serW l
 | []=>by simp[serW]
 | s::l=>by have:=serW_len l;simp only[serW,List.length_cons];omega
theorem serW_mem:∀ (l:List Zi) (s:Zi),s∈l→(s.f1.length:Int)≤serW l
 | x::l,s,h=>by
  have:=serW_len l;simp only[serW];rcases List.mem_cons.1 h with rfl | h
  ·omega
  ·have:=serW_mem l s h;omega
theorem light20_l0 (l:List Zi) (hR:RL l):∀ (suf pre:List Zi) (x i:Int),l=pre++suf→i=(pre.length:Int)→0≤x→x+2199024304129*(suf.length:Int)≤9000000000000000000 →
  ∃ r,Z13.l0 l x i=some r∧(r = .inl false∨∃ x',r = .inr x'∧x+serW suf≤x'):=by
 intro suf;have hll:=hR.1
 induction suf with
 | nil=>intro pre x i h1 hi h0 hx;rw[Z13.l0,if_neg (by rw[h1];simp[hi])];exact⟨_,rfl,.inr ⟨x,rfl,by simp[serW]⟩⟩
 | cons s suf ih =>
  intro pre x i h1 hi h0 hx;have hlen:l.length=pre.length+(suf.length+1):=by rw[h1];simp
  have hs:=hR.2 s (by rw[h1];simp);have hsl:=hs.r1.1;have hf:=hs.r0.1;simp only[List.length_cons] at hx;obtain⟨b,eb⟩:=light10 s.f0 (by omega);rw[Z13.l0,if_pos (by simp;omega),Z0a h1 hi,sb,eb,sb];cases b
  ·rw[if_pos (by simp)];exact⟨_,rfl,.inl rfl⟩
  ·rw[if_neg (by simp),Ze     (n:=x+1) (by omega) (by omega)]
   obtain⟨x',e,g1,g2⟩:=light20_l1 l s hs i s.f1 [] (x+1) 0 rfl rfl (by omega) (by omega);rw[e,sb,Ze (n:=i+1) (by omega) (by omega)];obtain⟨r,e2,hr⟩:=ih (pre++[s]) x' (i+1) (by simp[h1]) (by simp;omega) (by omega) (by omega);refine⟨r,e2,?_⟩;rcases hr with h | ⟨y,h,g⟩
   ·exact .inl h
   ·exact .inr ⟨y,h,by simp only[serW];omega⟩
structure Rig (l:List Zi):Prop where
 ok:∀ s∈l,chkC s.f0=0∧Ups s.f1
 up:l.Pairwise (fun a b=>cmpL a.f0 b.f0<0)
theorem right20_l0 (l:List Zi) (hR:RL l):∀ (suf pre:List Zi) (i:Int),l=pre++suf→i=(pre.length:Int)→Rig pre→∃ r,Z2i.l0 l i=some r∧(r = .inl false∨(r = .inr ()∧Rig l)):=by
 intro suf;have hll:=hR.1
 induction suf with
 | nil=>intro pre i h1 hi hg;rw[List.append_nil] at h1;subst h1;rw[Z2i.l0,if_neg (by simp[hi])];exact⟨_,rfl,.inr ⟨rfl,hg⟩⟩
 | cons s suf ih =>
  intro pre i h1 hi hg;have hlen:l.length=pre.length+(suf.length+1):=by rw[h1];simp
  have hs:=hR.2 s (by rw[h1];simp);have hsl:=hs.r1.1;have hf:=hs.r0.1;obtain⟨rr,er,hrr⟩:=rising_l0 s.f1 (by omega) hs.r1.2 s.f1 [] 0 rfl rfl ⟨fun s hs=>(by cases hs),List.Pairwise.nil⟩;have hris:∃ b,Z1m.f s.f1=some b∧(b=true→Ups s.f1):=by
   unfold Z1m.f;rw[er,sb];rcases hrr with rfl | ⟨rfl,h⟩
   ·exact⟨false,rfl,by simp⟩
   ·exact⟨true,rfl,fun _=>h⟩
  obtain⟨b,eb,hb⟩:=hris;rw[Z2i.l0,if_pos (by simp;omega),Z0a h1 hi,sb,rcheck s.f0,sb];by_cases hc:chkC s.f0=0
  case neg=>rw[if_pos (show(chkC s.f0 != (0:Int))=true by simpa using hc),sb,if_pos rfl];exact⟨_,rfl,.inl rfl⟩
  rw[if_neg (show ¬ ((chkC s.f0 != (0:Int))=true) by simpa using hc),eb,sb];have go:∀ (hlast:∀ p∈pre,cmpL p.f0 s.f0<0),∃ r,((some (!b):Option Bool)>>=fun x565=>if x565=true then(some (.inl false)) else(Z2i.l0 l (i64.wrap (i+(1:Int)))))=some r∧(r = .inl false∨(r = .inr ()∧Rig l)):=by
   intro hlast;cases b
   ·rw[sb,if_pos (by rfl)];exact⟨_,rfl,.inl rfl⟩
   ·rw[sb,if_neg (by simp),Ze     (by omega) (by omega)]
    refine ih (pre++[s]) (i+1) (by simp[h1]) (by simp;omega) ⟨fun x hx => ?_,List.pairwise_append.2 ⟨hg.up,by simp,fun p hp q hq => ?_⟩⟩
    ·rcases List.mem_append.1 hx with hx | hx
     ·exact hg.ok x hx
     ·simp at hx;subst hx;exact⟨hc,hb rfl⟩
    ·simp at hq;subst hq;exact hlast p hp
  rcases List.eq_nil_or_concat pre with hn | ⟨P,p,hp⟩
  ·subst hn
   rw[if_neg (show ¬ (decide (i>(0:Int))=true) by simp[hi])];exact go (fun p hp=>by cases hp)
  ·simp only[List.concat_eq_append] at hp
   have hpl:pre.length=P.length+1:=by rw[hp];simp
   have hpR:=hR.2 p (by rw[h1,hp];simp);have hpf:=hpR.r0.1;rw[if_pos (show decide (i>(0:Int))=true by simp;omega),Ze (n:=i-1) (by omega) (by omega),Z0a (l:=l) (pre:=P) (x:=p) (suf:=s::suf) (by rw[h1,hp];simp) (by omega),sb,rcmp _ _ (by omega) (by omega),sb];by_cases hlt:cmpL p.f0 s.f0≥0
   ·rw[if_pos (show decide (cmpL p.f0 s.f0≥0)=true by simpa using hlt),sb,if_pos rfl];exact⟨_,rfl,.inl rfl⟩
   ·rw[if_neg (show ¬ (decide (cmpL p.f0 s.f0≥0)=true) by simpa using hlt)]
    refine go (fun q hq => ?_);rw[hp] at hq;rcases List.mem_append.1 hq with hq | hq
    ·have hu:=hg.up;rw[hp] at hu
     exact Z8z _ _ _ ((List.pairwise_append.1 hu).2.2 q hq p (by simp)) (by omega)
    ·simp at hq;subst hq;omega
theorem light20 (l:List Zi) (hR:RL l):∃ b,Z13.f l=some b∧(b=true→Ser l∧Rig l):=by
 have hll:=hR.1;unfold Z13.f;obtain⟨r,e,hr⟩:=light20_l0 l hR l [] 0 0 rfl rfl (by omega) (by omega);rw[e,sb];rcases hr with rfl | ⟨x,rfl,hx⟩
 ·exact⟨false,rfl,by simp⟩
 ·dsimp only
  by_cases hn:x≤400
  case neg=>rw[if_neg (by simpa using hn),sb];exact⟨false,rfl,by simp⟩
  rw[if_pos (by simpa using hn)];unfold Z2i.f;obtain⟨r2,e2,hr2⟩:=right20_l0 l hR l [] 0 rfl rfl ⟨fun s hs=>(by cases hs),List.Pairwise.nil⟩;rw[e2,sb];rcases hr2 with rfl | ⟨rfl,hg⟩
  ·exact⟨false,rfl,by simp⟩
  ·refine⟨true,rfl,fun _=>⟨⟨?_,fun s hs=>(hR.2 s hs).r0.1,fun s hs=>⟨fun t ht=>⟨((hg.ok s hs).2.ok t ht).1,fits_of ((hR.2 s hs).r1.2 t ht).r1⟩,?_⟩⟩,hg⟩⟩
   ·have:=serW_len l;omega
   ·have:=serW_mem l s hs;omega
theorem Add_casesE (a b p q:Z1) (s z:Int) (fa:Fits a) (fb:Fits b) (he:Z01.f a b=some (p,q,0)) (cp:Cut a s z p) (cq:Cut b s z q) (hp:Pair p q) :
  (∃ e,(e=5∨e=9)∧Z0i.f a b=some (h0,e))∨∃ r,Z0i.f a b=some (r,0)∧Sumd p q r:=by
 have kp:=cp.kind;have kq:=cq.kind;have a1:=hp.vp.pos.len;have a2:=hp.vp.neg.len;have a3:=hp.vq.pos.len;have a4:=hp.vq.neg.len;have c1:=hp.vp.count;have c2:=hp.vq.count;have n1:=Zs hp.vp.pos.canon.nn;have n2:=Zs hp.vp.neg.canon.nn;have n3:=Zs hp.vq.pos.canon.nn;have n4:=Zs hp.vq.neg.canon.nn;have z1:=hp.fp.zero;have z2:=hp.fq.zero;have hsum:([a.f5,b.f5]:List Int).sum=a.f5+b.f5:=by simp
 have hAI:=addint [a.f5,b.f5] (by simp) (by simp;exact⟨fa.sum,fb.sum⟩);rw[hsum] at hAI;obtain⟨B6,B7⟩:=Zau hp;obtain⟨U6,U7⟩:=Z8m hp;have ht:cnt (p.f6++q.f6)+cnt (p.f7++q.f7)+(p.f3+q.f3)=p.f4+q.f4:=by rw[Z3d,Z3d];omega
 by_cases hI:I64 (a.f5+b.f5)
 case neg =>
  refine .inl ⟨5,by simp,?_⟩;unfold Z0i.f;rw[hAI,if_neg hI,sb,he,sb];rfl
 rw[if_pos hI] at hAI;have hk:(if b.f0>a.f0 then b.f0 else a.f0)=(if q.f0>p.f0 then q.f0 else p.f0):=by rw[kp,kq]
 have hkk:(if b.f0>a.f0 then b.f0 else a.f0)=0∨(if b.f0>a.f0 then b.f0 else a.f0)=1:=by
  rw[hk];split;exact hp.vq.kind;exact hp.vp.kind
 by_cases hc:p.f4+q.f4<18446744073709551616
 case neg =>
  refine .inl ⟨5,by simp,?_⟩;unfold Z0i.f;rw[hAI,sb,he,sb,if_neg (by simp),Z50 z1 z2,sb];by_cases hz:p.f3+q.f3<18446744073709551616
  ·rw[if_pos hz,if_neg (by simp)]
   dsimp only;rw[chkB (by simp;omega),chkB (by omega),chkB (by simp;omega),chkB (by omega)];rw[Zah (⟨(if b.f0>a.f0 then b.f0 else a.f0),p.f1,p.f2,p.f3+q.f3,0,a.f5+b.f5,[],[]⟩:Z1) _ _ B6 B7 U6 U7 ⟨by simp;omega,hz⟩ (by simp only;omega)];rfl
  ·rw[if_neg hz,if_pos (by simp)];rfl
 have hz:p.f3+q.f3<18446744073709551616:=by omega
 have m6:=Zs B6.nn;have m7:=Zs B7.nn;obtain⟨o6,_,C6,T6,_,_,L6,_⟩:=Z6s B6 (by have:=z1.1;have:=z2.1;omega);obtain⟨o7,_,C7,T7,_,_,L7,_⟩:=Z6s B7 (by have:=z1.1;have:=z2.1;omega);have hprog:∀ x,Z1p.f (⟨(if b.f0>a.f0 then b.f0 else a.f0),p.f1,p.f2,p.f3+q.f3,0,a.f5+b.f5,[],[]⟩:Z1) (p.f6++q.f6) (p.f7++q.f7)=some x→Z0i.f a b=some x:=by
  intro x hx;unfold Z0i.f;rw[hAI,sb,he,sb,if_neg (by simp),Z50 z1 z2,if_pos hz,sb,if_neg (by simp)];dsimp only;rw[chkB (by simp;omega),chkB (by omega),chkB (by simp;omega),chkB (by omega),hx];rfl
 by_cases hlim:512<o6.length∨512<o7.length
 ·exact .inl ⟨9,by simp,hprog _ (Z8w (⟨(if b.f0>a.f0 then b.f0 else a.f0),p.f1,p.f2,p.f3+q.f3,0,a.f5+b.f5,[],[]⟩:Z1) _ _ hkk hp.vp.schema hp.vp.zero (by simp;omega) hI B6 B7 (by simp only;omega) ⟨o6,o7,C6,C7,T6,T7,hlim⟩)⟩
 ·obtain⟨r,e,v,f,e0,e1,e2,e3,e5,x6,x7,e4⟩:=Z5i        (⟨(if b.f0>a.f0 then b.f0 else a.f0),p.f1,p.f2,p.f3+q.f3,0,a.f5+b.f5,[],[]⟩:Z1   ) (p.f6++q.f6) (p.f7++q.f7) hkk hp.vp.schema hp.vp.zero (by simp;omega) hI B6 B7 (by simp only;omega) (fun o ho hto=>by
   rcases hto with hto | hto
   ·rw[Z1u ho C6 (fun i=>(hto.1 i).trans (T6 i).symm)];omega
   ·rw[Z1u ho C7 (fun i=>(hto.1 i).trans (T7 i).symm)];omega)
  exact .inr ⟨r,hprog _ e,v,f,e0.trans hk,e1,e2,e3,by rw[e4];exact ht,by rw[e5,cp.sum,cq.sum],fun i=>by rw[x6,Z19],fun i=>by rw[x7,Z19]⟩
theorem add_anyE (x y:Z1) (vx:Z0l x) (fx:Fits x) (vy:Z0l y) (fy:Fits y):∃ r e,Z0i.f x y=some (r,e)∧((e=0∧Z0l r∧Fits r∧r.f4=x.f4+y.f4)∨(r=h0∧(e=5∨e=9))):=by
 obtain⟨p,q,s,z,e,cp,cq,hp⟩:=Z7x x y vx fx vy fy;rcases Add_casesE x y p q s z fx fy e cp cq hp with ⟨e,he,h1⟩ | ⟨r,h1,h3⟩
 ·exact⟨_,_,h1,.inr ⟨rfl,he⟩⟩
 ·exact⟨_,_,h1,.inl ⟨rfl,h3.valid,h3.fits,by rw[h3.count,cp.count,cq.count]⟩⟩
def cntS:List Z1→Int
 | []=>0
 | h::l=>h.f4+cntS l
theorem sumE_l0 (l:List Z1) (hl:l.length<1000000) (hv:∀ h∈l,Z0l h∧Fits h):∀ (suf pre:List Z1) (o:Z1) (i:Int),l.drop 1=pre++suf→i=(pre.length:Int)→0<l.length→Z0l o→Fits o →
  ∃ r,Z0u.l0 l (o.f0,o.f1,o.f2,o.f3,o.f4,o.f5,o.f6,o.f7,i)=some r∧((∃ e,(e=5∨e=9)∧r = .inl (h0,e))∨∃ o':Z1,r = .inr (o'.f0,o'.f1,o'.f2,o'.f3,o'.f4,o'.f5,o'.f6,o'.f7)∧Z0l o'∧Fits o'∧o'.f4=o.f4+cntS suf):=by
 intro suf
 induction suf with
 | nil =>
  intro pre o i h1 hi hp vo fo;have hlen:l.length=pre.length+1:=by have:=congrArg List.length h1;simp at this;omega
  refine⟨_,?_,.inr ⟨o,rfl,vo,fo,by simp[cntS]⟩⟩;rw[Z0u.l0]
  try dsimp only
  rw[if_neg (by simp;omega)]
 | cons x suf ih =>
  intro pre o i h1 hi hp vo fo;have hlen:l.length=pre.length+(suf.length+1)+1:=by have:=congrArg List.length h1;simp at this;omega
  have hx:x∈l:=List.mem_of_mem_drop (i:=1) (by rw[h1];simp);have vx:=hv x hx;have htake:(l.drop (Int.toNat (1:Int))).take (Int.toNat (l.length:Int)-Int.toNat (1:Int))=l.drop 1:=by
   simp only[Int.toNat_one,Int.toNat_natCast];rw[List.take_of_length_le (by simp)]
  obtain⟨r,e',A1,hA⟩:=add_anyE o x vo fo vx.1 vx.2;have P:Z0u.l0 l (o.f0,o.f1,o.f2,o.f3,o.f4,o.f5,o.f6,o.f7,i)=if e'=0 then Z0u.l0 l (r.f0,r.f1,r.f2,r.f3,r.f4,r.f5,r.f6,r.f7,i+1) else some (.inl (h0,e')):=by
   conv=>lhs;rw[Z0u.l0]
   try dsimp only
   rw[htake,if_pos (by simp;omega),Z0a h1 hi,sb,A1,sb,Ze (n:=i+1) (by omega) (by omega)];by_cases h:e'=0<;>simp[h,h0]
  rw[P];rcases hA with ⟨rfl,vr,fr,hc⟩ | ⟨rfl,he⟩
  ·rw[if_pos rfl]
   obtain⟨r2,e2,hr2⟩:=ih (pre++[x]) r (i+1) (by simp[h1]) (by simp;omega) hp vr fr;refine⟨r2,e2,?_⟩;rcases hr2 with h | ⟨o',e3,v3,f3,c3⟩
   ·exact .inl h
   ·exact .inr ⟨o',e3,v3,f3,by rw[c3,hc];simp only[cntS];omega⟩
  ·rw[if_neg (by omega)];exact⟨_,rfl,.inl ⟨_,he,rfl⟩⟩
theorem sumE (l:List Z1) (hl:l.length<1000000) (hv:∀ h∈l,Z0l h∧Fits h):∃ r e,Z0u.f l=some (r,e)∧((l=[]∧e=30)∨(e=0∧Z0l r∧Fits r∧r.f4=cntS l)∨(l≠[]∧(e=5∨e=9))):=by
 unfold Z0u.f;cases l with
 | nil=>exact⟨_,_,rfl,.inl ⟨rfl,rfl⟩⟩
 | cons x l =>
  have vx:=hv x (by simp);have hlx:=Z7b (.inr vx.1);rw[if_neg (by simp;omega),show at? (x::l) 0=some x from rfl,sb,Z4m x hlx.1 hlx.2,sb,chkB (by simp;omega)];obtain⟨r,r1,hr⟩:=sumE_l0 (x::l) hl hv l [] x 0 rfl rfl (by simp) vx.1 vx.2;rw[r1,sb];rcases hr with ⟨e,he,rfl⟩ | ⟨o,rfl,vo,fo,co⟩
  ·exact⟨_,_,rfl,.inr (.inr ⟨by simp,he⟩)⟩
  ·exact⟨_,_,rfl,.inr (.inl ⟨rfl,vo,fo,co⟩)⟩
def Z5a (a:Z0m) (s:Zi):Option Z1:=(s.f1.filter (Z5o a.f5 a.f6)).getLast?.map (·.f1)
theorem lastH_ok {a:Z0m} {s:Zi} (h:Lit s.f1) {x:Z1} (e:Z5a a s=some x):Z0l x∧Fits x:=by
 unfold Z5a at e;cases hg:(s.f1.filter (Z5o a.f5 a.f6)).getLast? with
 | none=>rw[hg] at e;simp at e
 | some p =>
  rw[hg] at e;simp at e;subst e;exact h.ok p ((List.mem_filter.1 (List.mem_of_getLast? hg)).1)
theorem of_kind (a:Z0m) (h5:a.f0≠5) (s:Zi) (h:Lit s.f1):Z1r.f (toQ a) s.f1=some (match Z5a a s with | some x=>(x,0) | none=>(h0,30)):=by
 have hlen:=h.len;have hw:=h.filter (Z5o a.f5 a.f6);have hwl:=hw.len;unfold Z1r.f;rw[win_eq s.f1 (by omega),sb,if_neg (by simpa using h5)];unfold Z5a;rcases List.eq_nil_or_concat (s.f1.filter (Z5o a.f5 a.f6)) with hn | ⟨P,p,hn⟩
 ·dsimp only
  rw[hn,if_pos (by simp)];rfl
 ·simp only[List.concat_eq_append] at hn
  dsimp only;rw[hn] at hw hwl ⊢;have hp:=hw.ok p (by simp);have h6:=hp.1.pos.len;have h7:=hp.1.neg.len;simp only[List.length_append,List.length_cons,List.length_nil] at hwl;rw[if_neg (by simp<;>omega),Ze (by simp<;>omega) (by simp<;>omega),Z0a (pre:=P) (x:=p) (suf:=[]) (by simp) (by simp),sb,Z4m p.f1 (by omega) (by omega),sb];simp
def gsumH (a:Z0m) (hs:List Z1):Option (Z7×Int):=Z0u.f hs>>=fun t=>if(t.2 != (0:Int))=true then some (ans0,t.2) else Z0h.f (toQ a) t.1
theorem gone_l0 (a:Z0m) (h5:a.f0≠5) (j:Bool) (n:List ByteArray) (l:List Zi) (hl:l.length≤400) (hL:∀ s∈l,Lit s.f1):∀ (suf pre:List Zi) (i:Int),l=pre++suf→i=(pre.length:Int) →
  Zy.l0 a.f0 a.f1 a.f2 a.f3 a.f4 a.f5 a.f6 j n l (pre.filterMap (Z5a a)) i=if l.length=1∧suf.filterMap (Z5a a)=[]∧suf≠[] then some (.inl (ans0,30)) else some (.inr (l.filterMap (Z5a a))):=by
 intro suf
 induction suf with
 | nil =>
  intro pre i h1 hi;rw[List.append_nil] at h1;subst h1;rw[Zy.l0,if_neg (by simp[hi]),if_neg (by simp)]
 | cons s suf ih =>
  intro pre i h1 hi;have hlen:l.length=pre.length+(suf.length+1):=by rw[h1];simp
  have hfm:(pre.filterMap (Z5a a)).length≤pre.length:=List.length_filterMap_le ..;have e1:Z1r.f (⟨a.f0,a.f1,a.f2,(⟨a.f3,a.f4⟩:Zx),a.f5,a.f6⟩:Z1d) s.f1=some (match Z5a a s with | some x=>(x,0) | none=>(h0,30)):=of_kind a h5 s (hL s (by rw[h1];simp));have next:=ih (pre++[s]) (i+1) (by simp[h1]) (by simp;omega)
  rw[Zy.l0,if_pos (by simp;omega),Z0a h1 hi,sb,e1,sb,Ze (by omega) (by omega)];cases hh:Z5a a s with
  | none =>
   have hfc:(s::suf).filterMap (Z5a a)=suf.filterMap (Z5a a):=by simp[hh]
   have hpc:(pre++[s]).filterMap (Z5a a)=pre.filterMap (Z5a a):=by simp[hh]
   rw[hpc] at next
   dsimp only;rw[if_pos (show((30:Int)==30)=true by rfl),sb];by_cases hb:l.length=1
   ·have hsn:suf=[]:=by cases suf with | nil=>rfl | cons _ _=>simp at hlen;omega
    subst hsn;rw[if_neg (show ¬ (decide ((l.length:Int)>1)=true) by simp;omega),if_pos (show((30:Int) != 0)=true by rfl),sb,if_pos ⟨hb,by simp[hh],by simp⟩]
   ·rw[if_pos (show decide ((l.length:Int)>1)=true by simp;omega),sb]
    dsimp only;rw[next,if_neg (fun q=>hb q.1),if_neg (fun q=>hb q.1)]
  | some x =>
   have hpc:(pre++[s]).filterMap (Z5a a)=pre.filterMap (Z5a a)++[x]:=by simp[hh]
   rw[hpc] at next
   dsimp only;rw[if_neg (show ¬ (((0:Int)==30)=true) by decide),sb,if_neg (show ¬ (false=true) by simp),if_neg (show ¬ (((0:Int) != 0)=true) by decide),chkB (by simp;omega),sb];dsimp only;rw[next,if_neg (show ¬ (l.length=1∧(s::suf).filterMap (Z5a a)=[]∧s::suf≠[]) by simp[hh]),if_neg];rintro⟨q1,q2,q3⟩;apply q3;cases suf with
   | nil=>rfl
   | cons _ _=>simp at hlen;omega
theorem gone_eq (a:Z0m) (h5:a.f0≠5) (j:Bool) (n:List ByteArray) (l:List Zi) (hl:l.length≤400) (hL:∀ s∈l,Lit s.f1):gone a j n l=gsumH a (l.filterMap (Z5a a)):=by
 unfold gone Zy.f gsumH;have:=gone_l0 a h5 j n l hl hL l [] 0 rfl rfl;rw[show([]:List Zi).filterMap (Z5a a)=[] from rfl] at this;rw[this];by_cases c:l.length=1∧l.filterMap (Z5a a)=[]∧l≠[]
 ·rw[if_pos c,sb,c.2.1,show Z0u.f []=some (h0,30) from rfl,sb,if_pos (by rfl)]
 ·rw[if_neg c,sb]
  dsimp only;cases Z0u.f (l.filterMap (Z5a a)) with
  | none=>rfl
  | some t =>
   rw[sb,sb];by_cases c2:(t.2 != (0:Int))=true
   ·rw[if_pos c2,if_pos c2]
   ·rw[if_neg c2,if_neg c2]
    show(Z0h.f (toQ a) t.1>>=fun t2878=>some t2878)=_;cases Z0h.f (toQ a) t.1<;>rfl
theorem lits_ok {a:Z0m} {l:List Zi} (hL:∀ s∈l,Lit s.f1):∀ h∈l.filterMap (Z5a a),Z0l h∧Fits h:=fun h hh=>by
 obtain⟨s,hs,e⟩:=List.mem_filterMap.1 hh;exact lastH_ok (hL s hs) e
theorem cntS_app:∀ a b:List Z1,cntS (a++b)=cntS a+cntS b
 | [],b=>by simp[cntS]
 | x::a,b=>by rw[List.cons_append,cntS,cntS,cntS_app a b];omega
def cntL (a:Z0m) (l:List Zi):Int:=cntS (l.filterMap (Z5a a))
def cntK (a:Z0m) (K:Zi→List Zh) (l:List Zi):List (List Zh)→Int
 | []=>0
 | k::ks=>cntL a (grp K l k)+cntK a K l ks
theorem cntK_cons (a:Z0m) (K:Zi→List Zh) (s:Zi) (l:List Zi):∀ ks:List (List Zh),ks.Nodup→cntK a K (s::l) ks=cntK a K l ks+if K s∈ks then cntL a [s] else 0
 | [],_=>by simp[cntK]
 | k::ks,h=>by
  obtain⟨h1,h2⟩:=List.nodup_cons.1 h;rw[cntK,cntK,cntK_cons a K s l ks h2];by_cases e:K s=k
  ·have hg:grp K (s::l) k=[s]++grp K l k:=by simp[grp,e]
   have hn:¬ K s∈ks:=by rw[e];exact h1
   have hc:cntL a ([s]++grp K l k)=cntL a [s]+cntL a (grp K l k):=by unfold cntL;rw[List.filterMap_append,cntS_app]
   rw[hg,hc,if_neg hn,if_pos (by simp[e])];omega
  ·have hg:grp K (s::l) k=grp K l k:=by simp[grp,e]
   rw[hg];by_cases hm:K s∈ks
   ·rw[if_pos hm,if_pos (by simp[hm])];omega
   ·rw[if_neg hm,if_neg (by simp[hm,e])];omega
theorem upk_nodup {ks:List (List Zh)} (h:UpK ks):ks.Nodup:=h.imp (fun {x y} hlt e=>by subst e;rw[Z58] at hlt;omega)
theorem cntK_all (a:Z0m) (K:Zi→List Zh) (ks:List (List Zh)) (hn:ks.Nodup):∀ l:List Zi,(∀ s∈l,K s∈ks)→cntK a K l ks=cntL a l
 | [],_=>by
  have:∀ ks:List (List Zh),cntK a K [] ks=0:=fun ks=>by
   induction ks with
   | nil=>rfl
   | cons k ks ih=>rw[cntK,ih];rfl
  rw[this];rfl
 | s::l,h=>by
  rw[cntK_cons a K s l ks hn,cntK_all a K ks hn l (fun s hs=>h s (by simp[hs])),if_pos (h s (by simp))];have:cntL a ([s]++l)=cntL a [s]+cntL a l:=by unfold cntL;rw[List.filterMap_append,cntS_app]
  rw[show s::l=[s]++l from rfl,this];omega
theorem cntS_nn:∀ l:List Z1,(∀ h∈l,Z0l h∧Fits h)→0≤cntS l
 | [],_=>by simp[cntS]
 | h::l,hv=>by
  have:=cntS_nn l (fun h hh=>hv h (by simp[hh]));have v:=(hv h (by simp)).1;have f:=(hv h (by simp)).2;have c:=v.count;have n1:=Zs v.pos.canon.nn;have n2:=Zs v.neg.canon.nn;have z:=f.zero;simp only[cntS];omega
theorem row_cnt (a:Z0m) (h2:a.f0=2) (hp:U64 a.f1) (ho:U64 a.f2) (j:Bool) (n:List ByteArray) (l:List Zi) (h:Ser l) (k:List Zh) :
  (rowP a j n l k).f1.f2=cntL a (grp (fun s=>keyL j n s.f0) l k)∧((rowP a j n l k).f2=0∨(rowP a j n l k).f2=30)∨(2≤(grp (fun s=>keyL j n s.f0) l k).length∧((rowP a j n l k).f2=5∨(rowP a j n l k).f2=9)):=by
 have hL:∀ s∈grp (fun s=>keyL j n s.f0) l k,Lit s.f1:=fun s hs=>h.lit s (Z7t hs).1
 have hgl:=grp_len (fun s=>keyL j n s.f0) l k;have hll:=h.len;have hg:=gone_eq a (by omega) j n (grp (fun s=>keyL j n s.f0) l k) (by omega) hL;have hfm:((grp (fun s=>keyL j n s.f0) l k).filterMap (Z5a a)).length≤(grp (fun s=>keyL j n s.f0) l k).length:=List.length_filterMap_le ..;have hrow:∀ x e,gone a j n (grp (fun s=>keyL j n s.f0) l k)=some (x,e)→(rowP a j n l k).f1=x∧(rowP a j n l k).f2=e:=fun x e q=>by
  have:oneP a j n (grp (fun s=>keyL j n s.f0) l k)=(x,e):=by unfold oneP;rw[q];rfl
  unfold rowP;rw[this];exact⟨rfl,rfl⟩
 have hv:=lits_ok (a:=a) hL;unfold cntL;generalize hhs:(grp (fun s=>keyL j n s.f0) l k).filterMap (Z5a a)=hs at *;obtain⟨r,e,es,hr⟩:=sumE hs (by omega) hv;unfold gsumH at hg;rw[es,sb] at hg;rcases hr with ⟨rfl,rfl⟩ | ⟨rfl,v,f,hc⟩ | ⟨hne,he⟩
 ·obtain⟨r1,r2⟩:=hrow ans0 30 (by rw[hg];rfl)
  exact .inl ⟨by rw[r1];rfl,.inr r2⟩
 ·rw[if_neg (by simp)] at hg
  obtain⟨x,e',g1,_,_,g2,_⟩:=finish_tot (toQ a) v f hp ho;obtain⟨q1',q2'⟩:=g2 h2;rw[g1] at hg;obtain⟨r1,r2⟩:=hrow x e' hg;exact .inl ⟨by rw[r1,q1',hc],.inl (by rw[r2,q2'])⟩
 ·have hne0:e≠0:=by omega
  rw[if_pos (by simpa using hne0)] at hg;obtain⟨r1,r2⟩:=hrow ans0 e hg;refine .inr ⟨?_,by rw[r2];exact he⟩;rcases Nat.lt_or_ge hs.length 2 with q | q
  ·exfalso
   obtain⟨x,rfl⟩:∃ x,hs=[x]:=by
    match hs,hne,q with
    | [x],_,_=>exact⟨x,rfl⟩
   have hx:=Z7b (.inr (hv x (by simp)).1);unfold Z0u.f at es;rw[if_neg (by simp),show at? [x] 0=some x from rfl,sb,Z4m x hx.1 hx.2,sb,chkB (by simp),Z0u.l0] at es
   try dsimp only at es
   rw[if_neg (by simp),sb] at es;simp at es;omega
  ·omega
theorem sums_l0x (Y:(List Z16)×Int) (rs:List Z16) (hl:rs.length≤400) (f:List Z16→Int) (hf0:f []=0) (hfa:∀ A r,f (A++[r])=f A+r.f1.f2) (hn:∀ r∈rs,0≤r.f1.f2):∀ (suf pre:List Z16) (i:Int),rs=pre++suf→i=(pre.length:Int)→0≤f pre→f pre≤1125899906842624*(pre.length:Int) →
  Z04.l0 (rs,0) Y (f pre) i=some (.inl true)∨(Z04.l0 (rs,0) Y (f pre) i=some (.inr (f rs))∧0≤f rs∧f rs≤1125899906842624*(rs.length:Int)):=by
 intro suf
 induction suf with
 | nil=>intro pre i h1 hi g0 g1;rw[List.append_nil] at h1;subst h1;rw[Z04.l0,if_neg (by simp[hi])];exact .inr ⟨rfl,g0,g1⟩
 | cons r suf ih =>
  intro pre i h1 hi g0 g1;have hlen:rs.length=pre.length+(suf.length+1):=by rw[h1];simp
  have hr:=hn r (by rw[h1];simp);rw[Z04.l0];dsimp only;rw[if_pos (by simp;omega),Z0a h1 hi,sb];by_cases c:r.f1.f2>1125899906842624
  ·rw[if_pos (by simpa using c),awake20,sb];exact .inl rfl
  ·rw[if_neg (by simpa using c),Z23   (by omega) (by omega),Ze     (by omega) (by omega)]
   have:=ih (pre++[r]) (i+1) (by simp[h1]) (by simp;omega) (by rw[hfa];omega) (by rw[hfa];simp;omega);rw[hfa] at this;exact this
theorem sums_l1y (x:Int) (rs:List Z16) (hl:rs.length≤400) (f:List Z16→Int) (hf0:f []=0) (hfa:∀ A r,f (A++[r])=f A+r.f1.f2)
  (hb:∀ r∈rs,r.f2=0∨r.f2=30→0≤r.f1.f2):∀ (suf pre:List Z16) (i:Int),rs=pre++suf→i=(pre.length:Int)→0≤f pre→(∀ r∈pre,r.f2=0∨r.f2=30) →
  Z04.l1 (rs,0) x (u64.wrap (f pre)) i=some (.inl true)∨(Z04.l1 (rs,0) x (u64.wrap (f pre)) i=some (.inr (u64.wrap (f rs)))∧∀ r∈rs,r.f2=0∨r.f2=30):=by
 intro suf
 induction suf with
 | nil=>intro pre i h1 hi g0 g1;rw[List.append_nil] at h1;subst h1;rw[Z04.l1,if_neg (by simp[hi])];exact .inr ⟨rfl,g1⟩
 | cons r suf ih =>
  intro pre i h1 hi g0 g1;have hlen:rs.length=pre.length+(suf.length+1):=by rw[h1];simp
  have hr:r∈rs:=by rw[h1];simp
  rw[Z04.l1];dsimp only;rw[if_pos (by simp;omega),Z0a h1 hi,sb];by_cases c:r.f2=0∨r.f2=30
  ·have hx:((if(r.f2 != (0:Int))=true then(some (r.f2 != (30:Int))) else(some false)):Option Bool)=some false:=by
    rcases c with c | c<;>simp[c]
   rw[hx,sb,if_neg (by simp),Ze (by omega) (by omega)];have hnn:=hb r hr c;have:=ih (pre++[r]) (i+1) (by simp[h1]) (by simp;omega) (by rw[hfa];omega) (fun q hq=>by
    rcases List.mem_append.1 hq with hq | hq
    ·exact g1 q hq
    ·simp at hq;subst hq;exact c)
   rw[hfa] at this;rw[show u64.wrap (u64.wrap (f pre)+r.f1.f2)=u64.wrap (f pre+r.f1.f2) by simp[IntKind.wrap,IntKind.bits,IntKind.signed]];exact this
  ·have hx:((if(r.f2 != (0:Int))=true then(some (r.f2 != (30:Int))) else(some false)):Option Bool)=some true:=by
    rw[if_pos (by simp;omega)];congr 1;simp;omega
   rw[hx,sb,if_pos rfl,awake20,sb];exact .inl rfl
def sumN:List Z16→Int
 | []=>0
 | r::l=>r.f1.f2+sumN l
theorem sumN_app:∀ (A:List Z16) (r:Z16),sumN (A++[r])=sumN A+r.f1.f2
 | [],r=>by simp[sumN]
 | x::A,r=>by rw[List.cons_append,sumN,sumN,sumN_app A r];omega
theorem sumN_map (a:Z0m) (j:Bool) (n:List ByteArray) (l:List Zi):∀ ks:List (List Zh),(∀ k∈ks,(rowP a j n l k).f1.f2=cntL a (grp (fun s=>keyL j n s.f0) l k))→sumN (ks.map (rowP a j n l))=cntK a (fun s=>keyL j n s.f0) l ks
 | [],_=>rfl
 | k::ks,h=>by rw[List.map_cons,sumN,cntK,sumN_map a j n l ks (fun k hk=>h k (by simp[hk])),h k (by simp)]
theorem grp_one (l:List Zi) (hG:Rig l) (k:List Zh):(grp (fun s=>keyL false [] s.f0) l k).length≤1:=by
 have hp:(grp (fun s=>keyL false [] s.f0) l k).Pairwise (fun a b=>cmpL a.f0 b.f0<0):=hG.up.sublist List.filter_sublist;cases hg:grp (fun s=>keyL false [] s.f0) l k with
 | nil=>simp
 | cons x t =>
  cases t with
  | nil=>simp
  | cons y t =>
   exfalso;rw[hg] at hp;have h1:=(List.pairwise_cons.1 hp).1 y (by simp);have hx:x.f0=k:=(Z7t (K:=fun s=>keyL false [] s.f0) (l:=l) (k:=k) (s:=x) (by rw[hg];simp)).2;have hy:y.f0=k:=(Z7t (K:=fun s=>keyL false [] s.f0) (l:=l) (k:=k) (s:=y) (by rw[hg];simp)).2;rw[hx,hy,Z58] at h1;omega
theorem groupSums_R (a0:List Zi) (a1:List ByteArray) (a2:Int) (R0:RL a0) (R1:a1.length≤1048576∧∀ y∈a1,y.size≤1048576) (R2:I64 a2):Z04.f a0 a1 a2=some true:=by
 unfold Z04.f;obtain⟨b,eb,hb⟩:=light20 a0 R0;rw[eb,awake20,sb];cases b
 case false=>rw[if_pos (by simp),sb,if_pos rfl,sb]
 rw[if_neg (by simp),sb];by_cases hn:a1.length>20
 ·rw[if_pos (by simp;omega),sb]
 rw[if_neg (by simp;omega)];obtain⟨hS,hG⟩:=hb rfl;unfold Z6n.f Z88.f;rw[sb,sb];dsimp only;have u0:U64 0:=by decide
 generalize hA:(⟨2,0,0,0,0,(-1),a2⟩:Z0m)=A;have A0:A.f0=2:=by rw[← hA]
 have A1:A.f1=0:=by rw[← hA]
 have A2:A.f2=0:=by rw[← hA]
 have hp:U64 A.f1:=by rw[A1];exact u0
 have ho:U64 A.f2:=by rw[A2];exact u0
 obtain⟨ks,hk,e⟩:=of_eq A false [] (by simp) a0 hS hp ho (by omega);obtain⟨kt,ht,et⟩:=of_eq A true a1 (by omega) a0 hS hp ho (by omega);have hall:Z0g.f 2 0 0 0 0 (-1) a2 false [] a0=some (ks.map (rowP A false [] a0),0):=by rw[← e,← hA]
 have hallt:Z0g.f 2 0 0 0 0 (-1) a2 true a1 a0=some (kt.map (rowP A true a1 a0),0):=by rw[← et,← hA]
 have hks:ks=a0.map (·.f0):=by
  refine Zba _ _ hk.up (List.pairwise_map.2 hG.up) (fun k => ?_);rw[hk.mem k,List.mem_map];exact Iff.rfl
 have hkl:ks.length=a0.length:=by rw[hks,List.length_map]
 have htl:=ht.len;have hsl:=hS.len;have hx:∀ k∈ks,(rowP A false [] a0 k).f1.f2=cntL A (grp (fun s=>keyL false [] s.f0) a0 k):=fun k _=>by
  rcases row_cnt A A0 hp ho false [] a0 hS k with h | h
  ·exact h.1
  ·have:=grp_one a0 hG k;omega
 have cnn:∀ (j:Bool) (n:List ByteArray) k,0≤cntL A (grp (fun s=>keyL j n s.f0) a0 k):=fun j n k=>cntS_nn _ (lits_ok (fun s hs=>hS.lit s (Z7t hs).1))
 have sx:sumN (ks.map (rowP A false [] a0))=cntL A a0:=by
  rw[sumN_map A false [] a0 ks hx];exact cntK_all A _ ks (upk_nodup hk.up) a0 (fun s hs=>(hk.mem _).2 ⟨s,hs,rfl⟩)
 have L0:=sums_l0x (kt.map (rowP A true a1 a0),0) (ks.map (rowP A false [] a0)) (by simp;omega) sumN rfl sumN_app (fun r hr=>by
  obtain⟨k,hk',rfl⟩:=List.mem_map.1 hr;rw[hx k hk'];exact cnn false [] k) (ks.map (rowP A false [] a0)) [] 0 rfl rfl (Int.le_refl _) (Int.le_refl _)
 have hy:∀ r∈kt.map (rowP A true a1 a0),r.f2=0∨r.f2=30→∃ k∈kt,r=rowP A true a1 a0 k∧r.f1.f2=cntL A (grp (fun s=>keyL true a1 s.f0) a0 k):=fun r hr hc=>by
  obtain⟨k,hk',rfl⟩:=List.mem_map.1 hr;refine⟨k,hk',rfl,?_⟩;rcases row_cnt A A0 hp ho true a1 a0 hS k with h | h
  ·exact h.1
  ·omega
 have L1:=sums_l1y (cntL A a0) (kt.map (rowP A true a1 a0)) (by simp;omega) sumN rfl sumN_app (fun r hr hc=>by
  obtain⟨k,_,_,e⟩:=hy r hr hc;rw[e];exact cnn true a1 k) (kt.map (rowP A true a1 a0)) [] 0 rfl rfl (Int.le_refl _) (fun r hr=>nomatch hr)
 rw[show u64.wrap (sumN [])=0 from rfl] at L1;rw[show sumN []=0 from rfl] at L0;rw[hall,sb,sb];dsimp only;rw[hallt,sb];dsimp only;rw[if_neg (by simp),if_neg (by simp),if_neg (by simp[hkl]),decide_eq_false (by simp;omega),sb,if_neg (by simp)];rcases L0 with L0 | ⟨L0,g0,g1⟩
 ·rw[L0,sb]
 ·rw[L0,sb]
  dsimp only;rw[sx] at g0 g1 ⊢;rcases L1 with L1 | ⟨L1,hc⟩
  ·rw[L1,sb]
  ·rw[L1,sb]
   dsimp only;have sy:sumN (kt.map (rowP A true a1 a0))=cntL A a0:=by
    rw[sumN_map A true a1 a0 kt (fun k hk'=>by
     have hm:rowP A true a1 a0 k∈kt.map (rowP A true a1 a0):=List.mem_map.2 ⟨k,hk',rfl⟩;rcases row_cnt A A0 hp ho true a1 a0 hS k with h | h
     ·exact h.1
     ·have:=hc _ hm;omega)]
    exact cntK_all A _ kt (upk_nodup ht.up) a0 (fun s hs=>(ht.mem _).2 ⟨s,hs,rfl⟩)
   have hlen:((ks.map (rowP A false [] a0)).length:Int)≤400:=by simp;omega
   rw[sy,Z23 g0 (by omega),sb,if_pos rfl,sb];simp
end Go.Proofs.YtcilcefjcaimoaaGreat.PvGQ
