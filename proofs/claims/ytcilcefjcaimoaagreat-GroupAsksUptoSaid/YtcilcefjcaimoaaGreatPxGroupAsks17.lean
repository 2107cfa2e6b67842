import Derived.Test.YtcilcefjcaimoaaGreatPxGroupAsks16
set_option linter.unusedVariables false
set_option linter.unusedSimpArgs false
set_option maxRecDepth 10000
namespace Go.Proofs.YtcilcefjcaimoaaGreat.PvGQ
open Go Go.Pv Go.Pv.GS Go.IntKind
theorem sums2_l0 (l:List Z2) (hl:l.length<1000000) (hv:∀ h∈l,Z0u h∧Fits h):∀ (suf pre:List Z2) (o:Z2) (i:Int),l.drop 1=pre++suf→i=(pre.length:Int)→0<l.length→Z0u o→Fits o →
  ∃ r,Z2o.l0 l (o.f0,o.f1,o.f2,o.f3,o.f4,o.f5,o.f6,o.f7,i)=some r∧Z3b.l0 l (o.f0,o.f1,o.f2,o.f3,o.f4,o.f5,o.f6,o.f7,i+1)=some r∧((∃ e,e≠0∧r = .inl (h0,e))∨∃ o':Z2,r = .inr (o'.f0,o'.f1,o'.f2,o'.f3,o'.f4,o'.f5,o'.f6,o'.f7)∧Z0u o'∧Fits o'):=by
 intro suf
 induction suf with
 | nil =>
  intro pre o i h1 hi hp vo fo;have hlen:l.length=pre.length+1:=by have:=congrArg List.length h1;simp at this;omega
  refine⟨_,?_,?_,.inr ⟨o,rfl,vo,fo⟩⟩
  ·rw[       Z2o.l0]
   try dsimp only
   rw[if_neg (by simp;omega)]
  ·rw[      Z3b.l0]
   try dsimp only
   rw[if_neg (by simp;omega)]
 | cons x suf ih =>
  intro pre o i h1 hi hp vo fo;have hlen:l.length=pre.length+(suf.length+1)+1:=by have:=congrArg List.length h1;simp at this;omega
  have hx:x∈l:=List.mem_of_mem_drop (i:=1) (by rw[h1];simp);have vx:=hv x hx;have htake:(l.drop (Int.toNat (1:Int))).take (Int.toNat (l.length:Int)-Int.toNat (1:Int))=l.drop 1:=by
   simp only[Int.toNat_one,Int.toNat_natCast];rw[List.take_of_length_le (by simp)]
  have hat2:at? l (i+1)=some x:=by
   obtain⟨z,l',rfl⟩:∃ z l',l=z::l':=by
    cases l with
    | nil=>simp at hp
    | cons z l'=>exact⟨z,l',rfl⟩
   simp only[List.drop_succ_cons,List.drop_zero] at h1;exact Z08 (pre:=z::pre) (suf:=suf) (by simp[h1]) (by simp;omega)
  obtain⟨r,e',A1,A2,hA⟩:=add_any o x vo fo vx.1 vx.2;have P:Z2o.l0 l (o.f0,o.f1,o.f2,o.f3,o.f4,o.f5,o.f6,o.f7,i)=if e'=0 then Z2o.l0 l (r.f0,r.f1,r.f2,r.f3,r.f4,r.f5,r.f6,r.f7,i+1) else some (.inl (h0,e')):=by
   conv=>lhs;rw[Z2o.l0]
   try dsimp only
   rw[htake,if_pos (by simp;omega),Z08 h1 hi,sb,A1,sb,Ze (n:=i+1) (by omega) (by omega)];by_cases h:e'=0<;>simp[h,h0]
  have R:Z3b.l0 l (o.f0,o.f1,o.f2,o.f3,o.f4,o.f5,o.f6,o.f7,i+1)=if e'=0 then Z3b.l0 l (r.f0,r.f1,r.f2,r.f3,r.f4,r.f5,r.f6,r.f7,i+1+1) else some (.inl (h0,e')):=by
   conv=>lhs;rw[Z3b.l0]
   try dsimp only
   rw[if_pos (by simp;omega),hat2,sb,A2,sb,Ze (n:=i+1+1) (by omega) (by omega)];by_cases h:e'=0<;>simp[h,h0]
  rw[P,R];rcases hA with ⟨rfl,vr,fr⟩ | ⟨rfl,he⟩
  ·rw[if_pos rfl,if_pos rfl];exact ih (pre++[x]) r (i+1) (by simp[h1]) (by simp;omega) hp vr fr
  ·rw[if_neg he,if_neg he];exact⟨_,rfl,rfl,.inl ⟨_,he,rfl⟩⟩
theorem sum_same2 (l:List Z2) (hl:l.length<1000000) (hv:∀ h∈l,Z0u h∧Fits h):∃ r e,Z2o.f l=some (r,e)∧Z3b.f l=some (r,e)∧(e=0→Z0u r∧Fits r):=by
 unfold Z2o.f Z3b.f;cases l with
 | nil=>exact⟨_,_,rfl,rfl,fun h=>absurd h (by decide)⟩
 | cons x l =>
  have vx:=hv x (by simp);have hlx:=Zbq (.inr vx.1);rw[if_neg (by simp;omega),if_neg (by simp;omega),show at? (x::l) 0=some x from rfl,sb,sb,Z6w x hlx.1 hlx.2,sb,chkB (by simp;omega)];obtain⟨r,r1,r2,hr⟩:=sums2_l0 (x::l) hl hv l [] x 0 rfl rfl (by simp) vx.1 vx.2;rw[r1,show(1:Int)=0+1 from rfl,r2,sb];rcases hr with ⟨e,he,rfl⟩ | ⟨o,rfl,vo,fo⟩
  ·exact⟨_,_,rfl,rfl,fun h=>absurd h he⟩
  ·exact⟨_,_,rfl,rfl,fun _=>⟨vo,fo⟩⟩
abbrev gone (a:Z0p) (j:Bool) (n:List ByteArray) (g:List Zj):=Z0b.f a.f0 a.f1 a.f2 a.f3 a.f4 a.f5 a.f6 j n g
theorem one_l0 (a:Z0p) (j:Bool) (n:List ByteArray) (l:List Zj) (hl:l.length≤400) (hL:∀ s∈l,Lit s.f1):∀ (suf pre:List Zj) (o:List Z2) (i:Int),l=pre++suf→i=(pre.length:Int)→o.length≤pre.length→(∀ h∈o,Z0u h∧Fits h) →
  (∃ e,e≠0∧Z0b.l0 a.f0 a.f1 a.f2 a.f3 a.f4 a.f5 a.f6 j n l o i=some (.inl (ans0,e))∧Z2i.l0 a l o i=some (.inl (ra ans0,e))) ∨
  (∃ o',o'.length≤l.length∧(∀ h∈o',Z0u h∧Fits h)∧Z0b.l0 a.f0 a.f1 a.f2 a.f3 a.f4 a.f5 a.f6 j n l o i=some (.inr o')∧Z2i.l0 a l o i=some (.inr o')):=by
 intro suf
 induction suf with
 | nil =>
  intro pre o i h1 hi ho hv;rw[List.append_nil] at h1;subst h1;rw[Z0b.l0,if_neg (by simp[hi]),Z2i.l0,if_neg (by simp[hi])];exact .inr ⟨o,ho,hv,rfl,rfl⟩
 | cons s suf ih =>
  intro pre o i h1 hi ho hv;have hlen:l.length=pre.length+(suf.length+1):=by rw[h1];simp
  obtain⟨x,e,e1,e2,_,hx⟩:=of_same a s.f1 (hL s (by rw[h1];simp));have e1':Z28.f (⟨a.f0,a.f1,a.f2,(⟨a.f3,a.f4⟩:Zz),a.f5,a.f6⟩:Z1o) s.f1=some (x,e):=e1;have hch:(o.length+[x].length)*96≤140737488355328:=by simp;omega
  have A:Z0b.l0 a.f0 a.f1 a.f2 a.f3 a.f4 a.f5 a.f6 j n l o i=if e=30∧l.length>1 then Z0b.l0 a.f0 a.f1 a.f2 a.f3 a.f4 a.f5 a.f6 j n l o (i+1) else if e≠0 then some (.inl (ans0,e)) else Z0b.l0 a.f0 a.f1 a.f2 a.f3 a.f4 a.f5 a.f6 j n l (o++[x]) (i+1):=by
   conv=>lhs;rw[Z0b.l0]
   rw[if_pos (by simp;omega),Z08 h1 hi,sb,e1',sb,Ze (by omega) (by omega)];dsimp only;by_cases h30:e=30
   ·subst h30
    by_cases hb:l.length>1
    ·rw[if_pos (by simp),sb,if_pos (by simp;omega),sb,if_pos ⟨rfl,hb⟩]
    ·rw[if_pos (by simp),sb,if_neg (by simp;omega),if_pos (by simp),sb,if_neg (fun h=>hb h.2),if_pos (by decide)]
   ·rw[if_neg (show ¬ (e=30∧l.length>1) from fun h=>h30 h.1),if_neg (show ¬ ((e==(30:Int))=true) by simpa using h30),sb,if_neg (show ¬ (false=true) by simp)]
    by_cases h0:e=0
    ·rw[if_neg (show ¬ (e≠0) from fun h=>h h0),if_neg (show ¬ ((e != (0:Int))=true) by simpa using h0),chkB hch,sb]
    ·rw[if_pos (show e≠0 from h0),if_pos (show(e != (0:Int))=true by simpa using h0),sb]
  have R:Z2i.l0 a l o i=if e=30∧l.length>1 then Z2i.l0 a l o (i+1) else if e≠0 then some (.inl (ra ans0,e)) else Z2i.l0 a l (o++[x]) (i+1):=by
   conv=>lhs;rw[Z2i.l0]
   rw[if_pos (by simp;omega),Z08 h1 hi,sb,e2,sb,Ze (by omega) (by omega)];dsimp only;by_cases h30:e=30
   ·subst h30
    by_cases hb:l.length>1
    ·rw[if_pos (by simp),sb,if_pos (by simp;omega),sb,if_pos ⟨rfl,hb⟩]
    ·rw[if_pos (by simp),sb,if_neg (by simp;omega),if_pos (by simp),sb,if_neg (fun h=>hb h.2),if_pos (by decide)]
   ·rw[if_neg (show ¬ (e=30∧l.length>1) from fun h=>h30 h.1),if_neg (show ¬ ((e==(30:Int))=true) by simpa using h30),sb,if_neg (show ¬ (false=true) by simp)]
    by_cases h0:e=0
    ·rw[if_neg (show ¬ (e≠0) from fun h=>h h0),if_neg (show ¬ ((e != (0:Int))=true) by simpa using h0),chkB hch,sb]
    ·rw[if_pos (show e≠0 from h0),if_pos (show(e != (0:Int))=true by simpa using h0),sb]
  rw[A,R];by_cases c1:e=30∧l.length>1
  ·rw[if_pos c1,if_pos c1]
   exact ih (pre++[s]) o (i+1) (by simp[h1]) (by simp;omega) (by simp;omega) hv
  ·rw[if_neg c1,if_neg c1]
   by_cases h0:e=0
   ·rw[if_neg (by simpa using h0),if_neg (by simpa using h0)]
    refine ih (pre++[s]) (o++[x]) (i+1) (by simp[h1]) (by simp;omega) (by simp;omega) (fun h hh => ?_);rcases List.mem_append.1 hh with hh | hh
    ·exact hv h hh
    ·simp at hh;subst hh;exact hx h0
   ·rw[if_pos h0,if_pos h0]
    exact .inl ⟨e,h0,rfl,rfl⟩
theorem one_same (a:Z0p) (j:Bool) (n:List ByteArray) (l:List Zj) (hl:l.length≤400) (hL:∀ s∈l,Lit s.f1) (hp:U64 a.f1) (ho:U64 a.f2) :
  ∃ x e,gone a j n l=some (x,e)∧Z2i.f a l=some (ra x,e)∧Z5m x.f0:=by
 unfold gone Z0b.f Z2i.f;rcases one_l0 a j n l hl hL l [] [] 0 rfl rfl (Nat.le_refl _) (fun h hh=>nomatch hh) with ⟨e,he,e1,e2⟩ | ⟨o,hol,hov,e1,e2⟩
 ·rw[e1,e2,sb,sb]
  exact⟨ans0,e,rfl,rfl,by simp[Z5m]⟩
 ·rw[e1,e2,sb,sb]
  dsimp only;obtain⟨r,e,s1,s2,hr⟩:=sum_same2 o (by omega) hov;rw[s1,s2,sb,sb];dsimp only;by_cases h0:e=0
  ·obtain⟨v,f⟩:=hr h0
   obtain⟨x,e',f1,f2,f3⟩:=finish_same a v f hp ho;rw[if_neg (by simpa using h0),if_neg (by simpa using h0),show Z11.f (⟨a.f0,a.f1,a.f2,(⟨a.f3,a.f4⟩:Zz),a.f5,a.f6⟩:Z1o) r=some (x,e') from f1,f2,sb,sb];exact⟨x,e',rfl,rfl,f3⟩
  ·rw[if_pos (by simpa using h0),if_pos (by simpa using h0)]
   exact⟨ans0,e,rfl,rfl,by simp[Z5m]⟩
def oneP (a:Z0p) (j:Bool) (n:List ByteArray) (g:List Zj):Z7×Int:=(gone a j n g).getD (ans0,0)
theorem oneP_eq (a:Z0p) (j:Bool) (n:List ByteArray) (l:List Zj) (hl:l.length≤400) (hL:∀ s∈l,Lit s.f1) (hp:U64 a.f1) (ho:U64 a.f2) :
  gone a j n l=some (oneP a j n l)∧Z2i.f a l=some (ra (oneP a j n l).1,(oneP a j n l).2)∧Z5m (oneP a j n l).1.f0:=by
 obtain⟨x,e,e1,e2,e3⟩:=one_same a j n l hl hL hp ho;have:oneP a j n l=(x,e):=by unfold oneP;rw[e1];rfl
 rw[this];exact⟨e1,e2,e3⟩
def rowP (a:Z0p) (j:Bool) (n:List ByteArray) (l:List Zj) (k:List Zg):Z2b:=⟨k,(oneP a j n (grp (fun s=>keyL j n s.f0) l k)).1,(oneP a j n (grp (fun s=>keyL j n s.f0) l k)).2⟩
def rrow (r:Z2b):Z31:=⟨r.f0,ra r.f1,r.f2⟩
structure Ser (l:List Zj):Prop where
 len:l.length≤400
 lab:∀ s∈l,s.f0.length≤1048576
 lit:∀ s∈l,Lit s.f1
theorem of_rows (a:Z0p) (j:Bool) (n:List ByteArray) (hn:n.length<1000) (l:List Zj) (h:Ser l) (hp:U64 a.f1) (ho:U64 a.f2) (ks:List (List Zg)) (hk:Keys (fun s=>keyL j n s.f0) l ks):∀ (suf pre:List (List Zg)) (i:Int),ks=pre++suf→i=(pre.length:Int) →
  Z0r.l0 a.f0 a.f1 a.f2 a.f3 a.f4 a.f5 a.f6 j n (ks.map (grp (fun s=>keyL j n s.f0) l)) (pre.map (rowP a j n l)) i=some (ks.map (rowP a j n l)):=by
 intro suf;have hlk:=hk.len;have hll:=h.len
 induction suf with
 | nil=>intro pre i h1 hi;rw[Z0r.l0,if_neg (by rw[h1];simp[hi]),h1,List.append_nil]
 | cons k suf ih =>
  intro pre i h1 hi;have hlen:ks.length=pre.length+(suf.length+1):=by rw[h1];simp
  have hk1:k∈ks:=by rw[h1];simp
  obtain⟨s,t,g1,g2,g3⟩:=hk.ne hk1;obtain⟨o1,o2,o3⟩:=oneP_eq a j n (grp (fun s=>keyL j n s.f0) l k) (Nat.le_trans (Zaq ..) h.len) (fun s hs=>h.lit s (Zar hs).1) hp ho;have hg:(ks.map (grp (fun s=>keyL j n s.f0) l))[pre.length]? = some (grp (fun s=>keyL j n s.f0) l k):=by
   rw[List.getElem?_map,h1,List.getElem?_append_right (Nat.le_refl _)];simp
  have hs0:at? (grp (fun s=>keyL j n s.f0) l k) 0=some s:=by rw[g1];rfl
  have hkl:k.length≤1048576:=by
   have:=Z61 j n s.f0;have:=h.lab s g3;have g2':keyL j n s.f0=k:=g2;rw[← g2'];omega
  rw[Z0r.l0,if_pos (by simp;omega),Z7v hi hg,sb,show Z0b.f a.f0 a.f1 a.f2 a.f3 a.f4 a.f5 a.f6 j n (grp (fun s=>keyL j n s.f0) l k)=_ from o1,sb,hs0,sb,
   gkey _ _ _ _ _ _ _ j n s (h.lab s g3) hn,sb,show keyL j n s.f0=k from g2,clone_l k (by unfold Fit;omega),sb,chkB (by simp;omega),Ze (by omega) (by omega)]
  have:=ih (pre++[k]) (i+1) (by simp[h1]) (by simp;omega);rw[List.map_append] at this;exact this
theorem of_eq (a:Z0p) (j:Bool) (n:List ByteArray) (hn:n.length<1000) (l:List Zj) (h:Ser l) (hp:U64 a.f1) (ho:U64 a.f2) (hk0:0≤a.f0∧a.f0≤5) :
  ∃ ks,Keys (fun s=>keyL j n s.f0) l ks∧Z0r.f a.f0 a.f1 a.f2 a.f3 a.f4 a.f5 a.f6 j n l=some (ks.map (rowP a j n l),0):=by
 obtain⟨ks,hk,e⟩:=groups_spec a.f0 a.f1 a.f2 a.f3 a.f4 a.f5 a.f6 j n hn l (by have:=h.len;omega) h.lab;refine⟨ks,hk,?_⟩;unfold Z0r.f;rw[if_neg (by simp;omega),sb,if_neg (by simp;omega),e,sb];have:=of_rows a j n hn l h hp ho ks hk ks [] 0 rfl rfl;rw[List.map_nil] at this;rw[this,sb]
theorem of_bad (a:Z0p) (j:Bool) (n:List ByteArray) (l:List Zj) (hk0:a.f0<0∨a.f0>5):Z0r.f a.f0 a.f1 a.f2 a.f3 a.f4 a.f5 a.f6 j n l=some ([],1):=by
 unfold Z0r.f;rcases hk0 with h | h
 ·rw[if_pos (by simpa using h),sb,if_pos rfl]
 ·rw[if_neg (by simp;omega),sb,if_pos (by simpa using h)]
def okS (K:Zj→List Zg) (o:List Z31) (s:Zj):Prop:=∀ r,o.getLast? = some r→0<cmpL (K s) r.f0
def BestS (K:Zj→List Zg) (o:List Z31) (l pre:List Zj) (b:Int):Prop :=
 (b = -1∧∀ s∈pre,¬ okS K o s)∨∃ (m:Nat) (s:Zj),b=(m:Int)∧l[m]? = some s∧okS K o s∧∀ s'∈pre,okS K o s'→cmpL (K s) (K s')≤0
open Classical in
theorem ref_l1 (a:Z0p) (j:Bool) (n:List ByteArray) (hn:n.length<1000) (l:List Zj) (h:Ser l) (o:List Z31) (hol:o.length≤400) (hof:∀ r∈o,r.f0.length≤1048576):∀ (suf pre:List Zj) (b i:Int),l=pre++suf→i=(pre.length:Int)→BestS (fun s=>keyL j n s.f0) o l pre b →
  ∃ b',Z1q.l1 a j n l o b i=some b'∧BestS (fun s=>keyL j n s.f0) o l l b':=by
 intro suf;have hll:=h.len
 induction suf with
 | nil=>intro pre b i h1 hi hb;rw[List.append_nil] at h1;subst h1;rw[Z1q.l1,if_neg (by simp[hi])];exact⟨b,rfl,hb⟩
 | cons s suf ih =>
  intro pre b i h1 hi hb;have hlen:l.length=pre.length+(suf.length+1):=by rw[h1];simp
  have hs:s∈l:=by rw[h1];simp
  have hsl:=h.lab s hs;have hkl:=Z61 j n s.f0;have step1:(((if(decide ((o.length:Int)>(0:Int)))=true then((at? o (i64.wrap ((o.length:Int)-(1:Int))))>>=fun b4613=>(Z00.f (keyL j n s.f0) b4613.f0)>>=fun t4616=>some (decide (t4616≤(0:Int)))) else(some false)):Option (Bool)))=some (decide (¬ okS (fun s=>keyL j n s.f0) o s)):=by
   rcases List.eq_nil_or_concat o with hn' | ⟨P,p,hp⟩
   ·subst hn'
    rw[if_neg (by simp)];congr 1;rw[eq_comm,decide_eq_false_iff_not,Classical.not_not];intro r hr;simp at hr
   ·simp only[List.concat_eq_append] at hp
    have hpl:=hof p (by rw[hp];simp);have hlo:o.length=P.length+1:=by rw[hp];simp
    rw[if_pos (by simp;omega),Ze (by omega) (by omega),Z08 (l:=o) (pre:=P) (x:=p) (suf:=[]) (by rw[hp]) (by omega),sb,rcmp _ _ (by omega) (by omega),sb];congr 1;have:okS (fun s=>keyL j n s.f0) o s↔0<cmpL (keyL j n s.f0) p.f0:=by
     unfold okS;rw[hp];simp
    by_cases c:cmpL (keyL j n s.f0) p.f0≤0
    ·rw[decide_eq_true c,eq_comm,decide_eq_true_iff,this];omega
    ·rw[decide_eq_false c,eq_comm,decide_eq_false_iff_not,Classical.not_not,this];omega
  rw[Z1q.l1,if_pos (by simp;omega),Z08 h1 hi,sb,rby s.f0 j n hsl hn,sb,step1,sb,Ze (by omega) (by omega)];by_cases hk:okS (fun s=>keyL j n s.f0) o s
  case neg =>
   rw[if_pos (by simpa using hk),sb];refine ih (pre++[s]) b (i+1) (by simp[h1]) (by simp;omega) ?_;rcases hb with ⟨rfl,hb⟩ | ⟨m,t,e1,e2,e3,e4⟩
   ·refine .inl ⟨rfl,fun x hx => ?_⟩
    rcases List.mem_append.1 hx with hx | hx
    ·exact hb x hx
    ·simp at hx;subst hx;exact hk
   ·refine .inr ⟨m,t,e1,e2,e3,fun x hx hok => ?_⟩
    rcases List.mem_append.1 hx with hx | hx
    ·exact e4 x hx hok
    ·simp at hx;subst hx;exact absurd hok hk
  rw[if_neg (by simpa using hk)];have hgs:l[pre.length]? = some s:=by rw[h1];simp
  rcases hb with ⟨rfl,hb⟩ | ⟨m,t,rfl,e2,e3,e4⟩
  ·rw[if_pos (by decide),sb,if_pos rfl,sb,sb]
   refine ih (pre++[s]) i (i+1) (by simp[h1]) (by simp;omega) (.inr ⟨pre.length,s,hi,hgs,hk,fun x hx hok => ?_⟩);rcases List.mem_append.1 hx with hx | hx
   ·exact absurd hok (hb x hx)
   ·simp at hx;subst hx;rw[Z4t];exact Int.le_refl _
  ·have htl:=h.lab t (List.mem_of_getElem? e2)
   have hkt:=Z61 j n t.f0;rw[if_neg (by simp),Z7v rfl e2,sb,rby t.f0 j n htl hn,sb,rcmp _ _ (by omega) (by omega),sb,sb];by_cases hc:cmpL (keyL j n s.f0) (keyL j n t.f0)<0
   ·rw[if_pos (by simpa using hc),sb,sb]
    refine ih (pre++[s]) i (i+1) (by simp[h1]) (by simp;omega) (.inr ⟨pre.length,s,hi,hgs,hk,fun x hx hok => ?_⟩);rcases List.mem_append.1 hx with hx | hx
    ·have h2:cmpL (keyL j n t.f0) (keyL j n x.f0)≤0:=e4 x hx hok
     rcases Int.lt_or_eq_of_le h2 with h2 | h2
     ·exact Int.le_of_lt (Z7l _ _ _ hc h2)
     ·rw[Z5t] at h2;show cmpL (keyL j n s.f0) (keyL j n x.f0)≤0;rw[← h2];omega
    ·simp at hx;subst hx;rw[Z4t];exact Int.le_refl _
   ·rw[if_neg (by simpa using hc),sb,sb]
    refine ih (pre++[s]) _ (i+1) (by simp[h1]) (by simp;omega) (.inr ⟨m,t,rfl,e2,e3,fun x hx hok => ?_⟩);rcases List.mem_append.1 hx with hx | hx
    ·exact e4 x hx hok
    ·simp at hx;subst hx
     show cmpL (keyL j n t.f0) (keyL j n x.f0)≤0;rw[Z8j];omega
theorem ref_l2 (a:Z0p) (j:Bool) (n:List ByteArray) (hn:n.length<1000) (l:List Zj) (h:Ser l) (o:List Z31) (k:List Zg) (hkl:k.length≤1048576):∀ (suf pre:List Zj) (i:Int),l=pre++suf→i=(pre.length:Int) →
  Z1q.l2 a j n l k o (grp (fun s=>keyL j n s.f0) pre k) i=some (grp (fun s=>keyL j n s.f0) l k):=by
 intro suf;have hll:=h.len
 induction suf with
 | nil=>intro pre i h1 hi;rw[List.append_nil] at h1;subst h1;rw[Z1q.l2,if_neg (by simp[hi])]
 | cons s suf ih =>
  intro pre i h1 hi;have hlen:l.length=pre.length+(suf.length+1):=by rw[h1];simp
  have hsl:=h.lab s (by rw[h1];simp);have hks:=Z61 j n s.f0;have hgl:=Zaq (fun s=>keyL j n s.f0) pre k;have next:=ih (pre++[s]) (i+1) (by simp[h1]) (by simp;omega)
  rw[Zas] at next
  rw[Z1q.l2,if_pos (by simp;omega),Z08 h1 hi,sb,rby s.f0 j n hsl hn,sb,rcmp _ _ (by omega) (by omega),sb,Ze (by omega) (by omega)];by_cases e:keyL j n s.f0=k
  ·rw[if_pos (by simpa using (Z5t       _ _).2 e),chkB (by simp;omega),sb]
   rw[if_pos e] at next;exact next
  ·rw[if_neg (by simpa using fun q=>e ((Z5t       _ _).1 q)),sb]
   rw[if_neg e] at next;exact next
theorem ref_l0 (a:Z0p) (j:Bool) (n:List ByteArray) (hn:n.length<1000) (l:List Zj) (h:Ser l) (hp:U64 a.f1) (ho:U64 a.f2) (ks:List (List Zg)) (hk:Keys (fun s=>keyL j n s.f0) l ks):∀ (B A:List (List Zg)),ks=A++B →
  Z1q.l0 a j n l (A.map fun k=>rrow (rowP a j n l k))=some (ks.map fun k=>rrow (rowP a j n l k)):=by
 have hll:=h.len;have hlk:=hk.len;have hkl:∀ k∈ks,k.length≤1048576:=fun k hk'=>by
  obtain⟨s,hs,e⟩:=(hk.mem k).1 hk';have e':keyL j n s.f0=k:=e;have:=Z61 j n s.f0;have:=h.lab s hs;rw[← e'];omega
 intro B
 induction B with
 | nil =>
  intro A h1;rw[List.append_nil] at h1;subst h1;obtain⟨b,e1,e2⟩:=ref_l1 a j n hn l h (ks.map fun k=>rrow (rowP a j n l k)) (by simp;omega) (fun r hr=>by
   obtain⟨k,hk',rfl⟩:=List.mem_map.1 hr;exact hkl k hk') l [] (-1) 0 rfl rfl (.inl ⟨rfl,fun s hs=>nomatch hs⟩)
  rw[Z1q.l0,e1,sb];rcases e2 with ⟨rfl,_⟩ | ⟨m,s,rfl,e3,e4,_⟩
  ·rw[if_pos (by decide)]
  ·exfalso
   have hsk:keyL j n s.f0∈ks:=(hk.mem _).2 ⟨s,List.mem_of_getElem? e3,rfl⟩;rcases List.eq_nil_or_concat ks with hn' | ⟨P,p,hp'⟩
   ·rw[hn'] at hsk;simp at hsk
   ·simp only[List.concat_eq_append] at hp'
    have:=e4 (rrow (rowP a j n l p)) (by rw[hp'];simp);have this:0<cmpL (keyL j n s.f0) p:=this;rw[hp'] at hsk;rcases List.mem_append.1 hsk with hq | hq
    ·have hu:=hk.up;rw[hp'] at hu
     have:=(List.pairwise_append.1 hu).2.2 _ hq p (by simp);omega
    ·simp at hq;rw[hq,Z4t] at this;omega
 | cons k B ih =>
  intro A h1;have hk1:k∈ks:=by rw[h1];simp
  have hu:=hk.up;rw[h1] at hu;obtain⟨u1,u2,u3⟩:=List.pairwise_append.1 hu;obtain⟨u4,u5⟩:=List.pairwise_cons.1 u2;have hlen:ks.length=A.length+(B.length+1):=by rw[h1];simp
  obtain⟨b,e1,e2⟩:=ref_l1 a j n hn l h (A.map fun k=>rrow (rowP a j n l k)) (by simp;omega) (fun r hr=>by
   obtain⟨k,hk',rfl⟩:=List.mem_map.1 hr;exact hkl k (by rw[h1];simp[hk'])) l [] (-1) 0 rfl rfl (.inl ⟨rfl,fun s hs=>nomatch hs⟩)
  have hok:∀ s∈l,(okS (fun s=>keyL j n s.f0) (A.map fun k=>rrow (rowP a j n l k)) s↔keyL j n s.f0∈k::B):=fun s hs=>by
   have hsk:keyL j n s.f0∈ks:=(hk.mem _).2 ⟨s,hs,rfl⟩;rw[h1] at hsk;rcases List.eq_nil_or_concat A with hn' | ⟨P,p,hp'⟩
   ·subst hn'
    refine⟨fun _=>by simpa using hsk,fun _ r hr=>by simp at hr⟩
   ·simp only[List.concat_eq_append] at hp'
    have hlast:okS (fun s=>keyL j n s.f0) (A.map fun k=>rrow (rowP a j n l k)) s↔0<cmpL (keyL j n s.f0) p:=by
     unfold okS;rw[hp'];simp[rrow,rowP]
    rw[hlast];constructor
    ·intro hlt
     rcases List.mem_append.1 hsk with hq | hq
     ·exfalso
      rw[hp'] at hq u1;rcases List.mem_append.1 hq with hq | hq
      ·have:=(List.pairwise_append.1 u1).2.2 _ hq p (by simp);omega
      ·simp at hq;rw[hq,Z4t] at hlt;omega
     ·exact hq
    ·intro hq
     have:=u3 p (by rw[hp'];simp) _ hq;rw[Z8j];omega
  obtain⟨s0,hs0,es0⟩:=(hk.mem k).1 hk1;have es0':keyL j n s0.f0=k:=es0;rw[Z1q.l0,e1,sb];rcases e2 with ⟨rfl,hno⟩ | ⟨m,s,rfl,e3,e4,e5⟩
  ·exact absurd ((hok s0 hs0).2 (by rw[es0'];simp)) (hno s0 hs0)
  ·have hs:=List.mem_of_getElem? e3
   have hsk:keyL j n s.f0=k:=by
    have h2:=(hok s hs).1 e4;rcases List.mem_cons.1 h2 with h2 | h2
    ·exact h2
    ·have h3:=e5 s0 hs0 ((hok s0 hs0).2 (by rw[es0'];simp))
     have h3:cmpL (keyL j n s.f0) (keyL j n s0.f0)≤0:=h3;have h4:=u4 _ h2;rw[es0',Z8j] at h3;omega
   obtain⟨o1,o2,o3⟩:=oneP_eq a j n (grp (fun s=>keyL j n s.f0) l k) (Nat.le_trans (Zaq ..) h.len) (fun s hs=>h.lit s (Zar hs).1) hp ho;have l2:=ref_l2 a j n hn l h (A.map fun k=>rrow (rowP a j n l k)) k (hkl k hk1) l [] 0 rfl rfl;have hnil:grp (fun s=>keyL j n s.f0) [] k=[]:=rfl;rw[hnil] at l2;rw[if_neg (by simp),Z7v rfl e3,sb,rby s.f0 j n (h.lab s hs) hn,sb,hsk,l2,sb,o2,sb,chkB (by simp;omega)];have:=ih (A++[k]) (by simp[h1]);rw[List.map_append] at this;exact this
theorem gref_of (a:Z0p) (j:Bool) (n:List ByteArray) (hn:n.length<1000) (l:List Zj) (h:Ser l) (hp:U64 a.f1) (ho:U64 a.f2) (ks:List (List Zg)) (hk:Keys (fun s=>keyL j n s.f0) l ks) :
  Z1q.f a j n l=some (ks.map fun k=>rrow (rowP a j n l k)):=by
 unfold Z1q.f;have:=ref_l0 a j n hn l h hp ho ks hk ks [] rfl;rw[List.map_nil] at this;rw[this,sb]
theorem awake20:Z2p.f=some true:=by cbv
abbrev RL (l:List Zj):Prop:=l.length≤1048576∧∀ s∈l,RSeries s
theorem light20_l1 (l:List Zj) (b:Zj) (hb:RSeries b) (c:Int):∀ (suf pre:List Zu) (x i:Int),b.f1=pre++suf→i=(pre.length:Int)→0≤x→x+2097153*(suf.length:Int)≤9000000000000000000 →
  ∃ x',Z0z.l1 l b c x i=some x'∧x+(suf.length:Int)≤x'∧x'≤x+2097153*(suf.length:Int):=by
 intro suf;have hbl:=hb.r1.1
 induction suf with
 | nil=>intro pre x i h1 hi h0 hx;rw[Z0z.l1,if_neg (by rw[h1];simp[hi])];exact⟨x,rfl,by simp,by simp⟩
 | cons s suf ih =>
  intro pre x i h1 hi h0 hx;have hlen:b.f1.length=pre.length+(suf.length+1):=by rw[h1];simp
  have hs:=hb.r1.2 s (by rw[h1];simp);have h6:=hs.r1.r6.1;have h7:=hs.r1.r7.1;simp only[List.length_cons] at hx ⊢;rw[Z0z.l1,if_pos (by simp;omega),Z08 h1 hi,sb,Ze (n:=(1:Int)+(s.f1.f6.length:Int)) (by omega) (by omega),Ze (n:=(1:Int)+(s.f1.f6.length:Int)+(s.f1.f7.length:Int)) (by omega) (by omega),Ze (n:=x+((1:Int)+(s.f1.f6.length:Int)+(s.f1.f7.length:Int))) (by omega) (by omega),Ze (n:=i+1) (by omega) (by omega)];obtain⟨x',e,g1,g2⟩:=ih (pre++[s]) (x+((1:Int)+(s.f1.f6.length:Int)+(s.f1.f7.length:Int))) (i+1) (by simp[h1]) (by simp;omega) (by omega) (by omega);exact⟨x',e,by omega,by omega⟩
def serW:List Zj→Int
 | []=>0
 | s::l=>1+(s.f1.length:Int)+serW l
theorem serW_len:∀ l:List Zj,(l.length:Int)≤serW l
 | []=>by simp[serW]
 | s::l=>by have:=serW_len l;simp only[serW,List.length_cons];omega
theorem serW_mem:∀ (l:List Zj) (s:Zj),s∈l→(s.f1.length:Int)≤serW l
 | x::l,s,h=>by
  have:=serW_len l;simp only[serW];rcases List.mem_cons.1 h with rfl | h
  ·omega
  ·have:=serW_mem l s h;omega
theorem light20_l0 (l:List Zj) (hR:RL l):∀ (suf pre:List Zj) (x i:Int),l=pre++suf→i=(pre.length:Int)→0≤x→x+2199024304129*(suf.length:Int)≤9000000000000000000 →
  ∃ r,Z0z.l0 l x i=some r∧(r = .inl false∨∃ x',r = .inr x'∧x+serW suf≤x'):=by
 intro suf;have hll:=hR.1
 induction suf with
 | nil=>intro pre x i h1 hi h0 hx;rw[Z0z.l0,if_neg (by rw[h1];simp[hi])];exact⟨_,rfl,.inr ⟨x,rfl,by simp[serW]⟩⟩
 | cons s suf ih =>
  intro pre x i h1 hi h0 hx;have hlen:l.length=pre.length+(suf.length+1):=by rw[h1];simp
  have hs:=hR.2 s (by rw[h1];simp);have hsl:=hs.r1.1;have hf:=hs.r0.1;simp only[List.length_cons] at hx;obtain⟨b,eb⟩:=light10 s.f0 (by omega);rw[Z0z.l0,if_pos (by simp;omega),Z08 h1 hi,sb,eb,sb];cases b
  ·rw[if_pos (by simp)];exact⟨_,rfl,.inl rfl⟩
  ·rw[if_neg (by simp),Ze     (n:=x+1) (by omega) (by omega)]
   obtain⟨x',e,g1,g2⟩:=light20_l1 l s hs i s.f1 [] (x+1) 0 rfl rfl (by omega) (by omega);rw[e,sb,Ze (n:=i+1) (by omega) (by omega)];obtain⟨r,e2,hr⟩:=ih (pre++[s]) x' (i+1) (by simp[h1]) (by simp;omega) (by omega) (by omega);refine⟨r,e2,?_⟩;rcases hr with h | ⟨y,h,g⟩
   ·exact .inl h
   ·exact .inr ⟨y,h,by simp only[serW];omega⟩
structure Rig (l:List Zj):Prop where
 ok:∀ s∈l,chkC s.f0=0∧Ups s.f1
 up:l.Pairwise (fun a b=>cmpL a.f0 b.f0<0)
theorem right20_l0 (l:List Zj) (hR:RL l):∀ (suf pre:List Zj) (i:Int),l=pre++suf→i=(pre.length:Int)→Rig pre→∃ r,Z2l.l0 l i=some r∧(r = .inl false∨(r = .inr ()∧Rig l)):=by
 intro suf;have hll:=hR.1
 induction suf with
 | nil=>intro pre i h1 hi hg;rw[List.append_nil] at h1;subst h1;rw[Z2l.l0,if_neg (by simp[hi])];exact⟨_,rfl,.inr ⟨rfl,hg⟩⟩
 | cons s suf ih =>
  intro pre i h1 hi hg;have hlen:l.length=pre.length+(suf.length+1):=by rw[h1];simp
  have hs:=hR.2 s (by rw[h1];simp);have hsl:=hs.r1.1;have hf:=hs.r0.1;obtain⟨rr,er,hrr⟩:=rising_l0 s.f1 (by omega) hs.r1.2 s.f1 [] 0 rfl rfl ⟨fun s hs=>(by cases hs),List.Pairwise.nil⟩;have hris:∃ b,Z1i.f s.f1=some b∧(b=true→Ups s.f1):=by
   unfold Z1i.f;rw[er,sb];rcases hrr with rfl | ⟨rfl,h⟩
   ·exact⟨false,rfl,by simp⟩
   ·exact⟨true,rfl,fun _=>h⟩
  obtain⟨b,eb,hb⟩:=hris;rw[Z2l.l0,if_pos (by simp;omega),Z08 h1 hi,sb,rcheck s.f0,sb];by_cases hc:chkC s.f0=0
  case neg=>rw[if_pos (show(chkC s.f0 != (0:Int))=true by simpa using hc),sb,if_pos rfl];exact⟨_,rfl,.inl rfl⟩
  rw[if_neg (show ¬ ((chkC s.f0 != (0:Int))=true) by simpa using hc),eb,sb];have go:∀ (hlast:∀ p∈pre,cmpL p.f0 s.f0<0),∃ r,((some (!b):Option Bool)>>=fun x565=>if x565=true then(some (.inl false)) else(Z2l.l0 l (i64.wrap (i+(1:Int)))))=some r∧(r = .inl false∨(r = .inr ()∧Rig l)):=by
   intro hlast;cases b
   ·rw[sb,if_pos (by rfl)];exact⟨_,rfl,.inl rfl⟩
   ·rw[sb,if_neg (by simp),Ze     (by omega) (by omega)]
    refine ih (pre++[s]) (i+1) (by simp[h1]) (by simp;omega) ⟨fun x hx => ?_,List.pairwise_append.2 ⟨hg.up,by simp,fun p hp q hq => ?_⟩⟩
    ·rcases List.mem_append.1 hx with hx | hx
     ·exact hg.ok x hx
     ·simp at hx;subst hx;exact⟨hc,hb rfl⟩
    ·simp at hq;subst hq;exact hlast p hp
  rcases List.eq_nil_or_concat pre with hn | ⟨P,p,hp⟩
  ·subst hn
   rw[if_neg (show ¬ (decide (i>(0:Int))=true) by simp[hi])];exact go (fun p hp=>by cases hp)
  ·simp only[List.concat_eq_append] at hp
   have hpl:pre.length=P.length+1:=by rw[hp];simp
   have hpR:=hR.2 p (by rw[h1,hp];simp);have hpf:=hpR.r0.1;rw[if_pos (show decide (i>(0:Int))=true by simp;omega),Ze (n:=i-1) (by omega) (by omega),Z08 (l:=l) (pre:=P) (x:=p) (suf:=s::suf) (by rw[h1,hp];simp) (by omega),sb,rcmp _ _ (by omega) (by omega),sb];by_cases hlt:cmpL p.f0 s.f0≥0
   ·rw[if_pos (show decide (cmpL p.f0 s.f0≥0)=true by simpa using hlt),sb,if_pos rfl];exact⟨_,rfl,.inl rfl⟩
   ·rw[if_neg (show ¬ (decide (cmpL p.f0 s.f0≥0)=true) by simpa using hlt)]
    refine go (fun q hq => ?_);rw[hp] at hq;rcases List.mem_append.1 hq with hq | hq
    ·have hu:=hg.up;rw[hp] at hu
     exact Z7l _ _ _ ((List.pairwise_append.1 hu).2.2 q hq p (by simp)) (by omega)
    ·simp at hq;subst hq;omega
theorem light20 (l:List Zj) (hR:RL l):∃ b,Z0z.f l=some b∧(b=true→Ser l∧Rig l):=by
 have hll:=hR.1;unfold Z0z.f;obtain⟨r,e,hr⟩:=light20_l0 l hR l [] 0 0 rfl rfl (by omega) (by omega);rw[e,sb];rcases hr with rfl | ⟨x,rfl,hx⟩
 ·exact⟨false,rfl,by simp⟩
 ·dsimp only
  by_cases hn:x≤400
  case neg=>rw[if_neg (by simpa using hn),sb];exact⟨false,rfl,by simp⟩
  rw[if_pos (by simpa using hn)];unfold Z2l.f;obtain⟨r2,e2,hr2⟩:=right20_l0 l hR l [] 0 rfl rfl ⟨fun s hs=>(by cases hs),List.Pairwise.nil⟩;rw[e2,sb];rcases hr2 with rfl | ⟨rfl,hg⟩
  ·exact⟨false,rfl,by simp⟩
  ·refine⟨true,rfl,fun _=>⟨⟨?_,fun s hs=>(hR.2 s hs).r0.1,fun s hs=>⟨fun t ht=>⟨((hg.ok s hs).2.ok t ht).1,fits_of ((hR.2 s hs).r1.2 t ht).r1⟩,?_⟩⟩,hg⟩⟩
   ·have:=serW_len l;omega
   ·have:=serW_mem l s hs;omega
theorem is20_l0 (rs:List Z2b) (hl:rs.length≤400) (h:∀ r∈rs,Z5m r.f1.f0∧r.f0.length≤1048576):∀ (suf pre:List Z2b) (i:Int),rs=pre++suf→i=(pre.length:Int)→Z4a.l0 rs (rs.map rrow) i=some (.inr ()):=by
 intro suf
 induction suf with
 | nil=>intro pre i h1 hi;rw[Z4a.l0,if_neg (by rw[h1];simp[hi])]
 | cons r suf ih =>
  intro pre i h1 hi;have hlen:rs.length=pre.length+(suf.length+1):=by rw[h1];simp
  obtain⟨hs,hf⟩:=h r (by rw[h1];simp);rw[Z4a.l0,if_pos (by simp;omega),Z08 h1 hi,sb,Z08 (l:=rs.map rrow) (pre:=pre.map rrow) (x:=rrow r) (suf:=suf.map rrow) (by rw[h1];simp) (by simp[hi]),sb,show(rrow r).f0=r.f0 from rfl,rcmp _ _ (by omega) (by omega),Z4t,sb,if_neg (by simp),if_neg (by simp[rrow]),show(rrow r).f1=ra r.f1 from rfl,is_ra r.f1 hs,sb,sb,if_neg (by simp),Ze (by omega) (by omega)];exact ih (pre++[r]) (i+1) (by simp[h1]) (by simp;omega)
theorem is20 (rs:List Z2b) (hl:rs.length≤400) (h:∀ r∈rs,Z5m r.f1.f0∧r.f0.length≤1048576):Z4a.f rs (rs.map rrow)=some true:=by
 unfold Z4a.f;rw[if_neg (by simp),is20_l0 rs hl h rs [] 0 rfl rfl,sb]
theorem rows_small (a:Z0p) (j:Bool) (n:List ByteArray) (l:List Zj) (h:Ser l) (hp:U64 a.f1) (ho:U64 a.f2) (ks:List (List Zg)) (hk:Keys (fun s=>keyL j n s.f0) l ks):(ks.map (rowP a j n l)).length≤400∧∀ r∈ks.map (rowP a j n l),Z5m r.f1.f0∧r.f0.length≤1048576:=by
 have:=hk.len;have:=h.len;refine⟨by simp;omega,fun r hr => ?_⟩;obtain⟨k,hk1,rfl⟩:=List.mem_map.1 hr;obtain⟨o1,o2,o3⟩:=oneP_eq a j n (grp (fun s=>keyL j n s.f0) l k) (Nat.le_trans (Zaq ..) h.len) (fun s hs=>h.lit s (Zar hs).1) hp ho;refine⟨o3,?_⟩;obtain⟨s,hs,e⟩:=(hk.mem k).1 hk1;have e':keyL j n s.f0=k:=e;have:=Z61 j n s.f0;have:=h.lab s hs;show k.length≤1048576;rw[← e'];omega
theorem groupAsks_R (a0:Z0p) (a1:Bool) (a2:List ByteArray) (a3:List Zj) (R0:Rr19_Ask a0) (R1:True) (R2:a2.length≤1048576∧∀ y∈a2,y.size≤1048576) (R3:RL a3):Z44.f a0 a1 a2 a3=some true:=by
 unfold Z44.f;obtain⟨b,eb,hb⟩:=light20 a3 R3;rw[eb,awake20,sb];cases b
 case false=>rw[if_pos (by simp),sb,if_pos rfl,sb]
 rw[if_neg (by simp),sb];by_cases hn:a2.length>20
 ·rw[if_pos (by simp;omega),sb]
 rw[if_neg (by simp;omega)];obtain⟨hS,hG⟩:=hb rfl;unfold Z8f.f Z8g.f;rw[sb,sb];dsimp only;by_cases hk0:0≤a0.f0∧a0.f0≤5
 case neg =>
  rw[of_bad a0 a1 a2 a3 (by omega),sb];have hbad:((if(decide (a0.f0<(0:Int)))=true then(some true) else(some (decide (a0.f0>(5:Int))))):Option Bool)=some true:=by
   by_cases c:a0.f0<0
   ·rw[if_pos (by simpa using c)]
   ·rw[if_neg (by simpa using c),decide_eq_true (by omega)]
  rw[hbad,sb,if_pos rfl,sb,if_pos rfl,if_pos (by rfl)];rfl
 have hgood:((if(decide (a0.f0<(0:Int)))=true then(some true) else(some (decide (a0.f0>(5:Int))))):Option Bool)=some false:=by
  rw[if_neg (by simp;omega),decide_eq_false (by omega)]
 obtain⟨ks,hk,e⟩:=of_eq a0 a1 a2 (by omega) a3 hS R0.r1 R0.r2 hk0;obtain⟨q1,q2⟩:=rows_small a0 a1 a2 a3 hS R0.r1 R0.r2 ks hk;have hmap:(ks.map fun k=>rrow (rowP a0 a1 a2 a3 k))=(ks.map (rowP a0 a1 a2 a3)).map rrow:=by rw[List.map_map];rfl
 rw[e,sb,hgood,sb,if_neg (by simp),sb,if_pos rfl];dsimp only;rw[if_pos (by simp),gref_of a0 a1 a2 (by omega) a3 hS R0.r1 R0.r2 ks hk,sb,hmap,is20 _ q1 q2,sb,sb]
end Go.Proofs.YtcilcefjcaimoaaGreat.PvGQ
