import Derived.Test.YtpoihfcehejgfaaGreatPxBlockReads19
set_option linter.unusedVariables false
set_option linter.unusedSimpArgs false
set_option maxRecDepth 10000
namespace Go.Proofs.YtpoihfcehejgfaaGreat.PvGS2
open Go Go.Pv Go.Pv.GS
def lab (k:ByteArray):List Z0f:=((Z0h.f k).getD ([],0)).1
def kw (k:ByteArray):List ByteArray:=Z4m (lab k)
theorem flatP_len (l:List Z0f):(Z4m l).length=2*l.length:=by
 induction l with
 | nil=>rfl
 | cons x l ih=>simp only[Z4m,List.flatMap_cons,List.length_append,List.length_cons,List.length_nil] at *;omega
structure Z7y (k:ByteArray):Prop where
 f:Z0h.f k=some (lab k,0)
 c:chkC (lab k)=0
 l:L k=Z55 (kw k)
 n:(lab k).length≤16
 s:∀ w∈kw k,w.size≤64
theorem keyOK16 {k:ByteArray} (hs:k.size≤2000000) (h:keyB k=true):Z7y k:=by
 obtain⟨x,e,h1,h2,h3⟩:=from16 hs;rw[h] at h2;obtain rfl:e=0:=by simpa using h2.symm
 obtain⟨h4,h5⟩:=h3 rfl;have hl:lab k=x:=by unfold lab;rw[h1];rfl
 have hz:=Ze6 h4;refine⟨by rw[hl];exact h1,by rw[hl];exact h4,by unfold kw;rw[hl,← Z6q];exact h5,by rw[hl];exact hz.1,fun w hw => ?_⟩;unfold kw at hw;rw[hl] at hw;obtain⟨z,hz1,hz2⟩:=List.mem_flatMap.1 hw;have:=Zab hz.2 z hz1;simp only[List.mem_cons,List.not_mem_nil,or_false] at hz2;rcases hz2 with rfl | rfl
 ·exact this.1
 ·exact this.2
theorem Zds {k:ByteArray} (h:Z7y k):(kw k).length≤32:=by have:=h.n;unfold kw;rw[flatP_len];omega
def allW (l:List Zp):List ByteArray:=l.flatMap fun r=>kw r.f0
theorem allW_len:∀ (l:List Zp),(∀ r∈l,Z7y r.f0)→(allW l).length≤32*l.length
 | [],_=>by simp[allW]
 | r::l,h=>by
  have h1:=Zds (h r (by simp));have h2:=allW_len l (fun x hx=>h x (by simp[hx]));simp only[allW,List.flatMap_cons,List.length_append,List.length_cons] at *;omega
theorem wl_l1 (b:Z2) (t:(List Z0f)×Int) (j:Int) (hl:t.1.length≤16):∀ (suf pre:List Z0f) (acc:List ByteArray) (i:Int),t.1=pre++suf→i=(pre.length:Int)→acc.length≤1000000-2*suf.length →
  Z14.l1 b t j acc i=some (acc++Z4m suf):=by
 intro suf
 induction suf with
 | nil=>intro pre acc i h1 hi _;rw[Z14.l1,if_neg (by rw[h1];simp[hi])];simp[Z4m]
 | cons x suf ih =>
  intro pre acc i h1 hi ha;have hlen:t.1.length=pre.length+(suf.length+1):=by rw[h1];simp
  simp only[List.length_cons] at ha;rw[Z14.l1,if_pos (by simp;omega),Z06 h1 hi,sb,chkB (by simp;omega),Z8 (by omega) (by omega),ih (pre++[x]) _ (i+1) (by simp[h1]) (by simp;omega) (by simp;omega)];simp[Z4m]
theorem wl_l0 (b:Z2) (hl:b.f1.length≤64) (hk:∀ r∈b.f1,Z7y r.f0):∀ (suf pre:List Zp) (acc:List ByteArray) (i:Int),b.f1=pre++suf→i=(pre.length:Int)→acc.length+32*suf.length≤100000 →
  Z14.l0 b acc i=some (acc++allW suf):=by
 intro suf
 induction suf with
 | nil=>intro pre acc i h1 hi _;rw[Z14.l0,if_neg (by rw[h1];simp[hi])];simp[allW]
 | cons r suf ih =>
  intro pre acc i h1 hi ha;have hlen:b.f1.length=pre.length+(suf.length+1):=by rw[h1];simp
  have hr:=hk r (by rw[h1];simp);have hn:=hr.n;have hkl:=Zds hr;simp only[List.length_cons] at ha;rw[Z14.l0,if_pos (by simp;omega),Z06 h1 hi,sb,hr.f,sb,wl_l1 b (lab r.f0,0) i hn (lab r.f0) [] acc 0 rfl rfl (by omega),sb,Z8 (by omega) (by omega)];rw[show Z4m (lab r.f0)=kw r.f0 from rfl,ih (pre++[r]) _ (i+1) (by simp[h1]) (by simp;omega) (by simp;omega)];simp[allW]
def Z5g (l:List ByteArray):Prop:=l.Pairwise fun a b=>bl a b=true
theorem Zd9:∀ {a b:List ByteArray},Z5g a→Z5g b→(∀ x,x∈a↔x∈b)→a=b
 | [],[],_,_,_=>rfl
 | [],y::b,_,_,h=>by have:=(h y).2 (by simp);simp at this
 | x::a,[],_,_,h=>by have:=(h x).1 (by simp);simp at this
 | x::a,y::b,ha,hb,h=>by
  obtain⟨a1,a2⟩:=List.pairwise_cons.1 ha;obtain⟨b1,b2⟩:=List.pairwise_cons.1 hb;have hxy:x=y:=by
   rcases List.mem_cons.1 ((h x).1 (by simp)) with e | e
   ·exact e
   ·rcases List.mem_cons.1 ((h y).2 (by simp)) with e2 | e2
    ·exact e2.symm
    ·have h1:=b1 x e
     have h2:=a1 y e2;have h3:bl x y=false:=Zd4 h1;rw[h3] at h2;simp at h2
  subst hxy;congr 1;refine Zd9 a2 b2 fun z=>⟨fun hz => ?_,fun hz => ?_⟩
  ·rcases List.mem_cons.1 ((h z).1 (by simp[hz])) with e | e
   ·subst e;have:=a1 z hz;rw[Z60] at this;simp at this
   ·exact e
  ·rcases List.mem_cons.1 ((h z).2 (by simp[hz])) with e | e
   ·subst e;have:=b1 z hz;rw[Z60] at this;simp at this
   ·exact e
theorem dd_strict (l:List ByteArray) (h:l.Pairwise (fun a b=>bl b a=false)):Z5g (dd l):=by
 revert h;refine Z6x (P:=fun l=>l.Pairwise (fun a b=>bl b a=false)→Z5g (dd l)) (fun _=>List.Pairwise.nil) (fun l x ih h => ?_) l;obtain⟨h1,_,h3⟩:=List.pairwise_append.1 h;rw[Ze2];unfold ddS;by_cases e:(dd l).getLast? = some x
 ·rw[if_pos e];exact ih h1
 ·rw[if_neg e]
  refine List.pairwise_append.2 ⟨ih h1,by simp,fun a ha c hc => ?_⟩;obtain rfl:c=x:=by simpa using hc
  have ha':=(dd_mem l a).1 ha;have h4:=h3 a ha' c (by simp);cases h5:bl a c with
  | true=>rfl
  | false =>
   exfalso;have hac:a=c:=bl_tri' h5 h4;subst hac;obtain⟨z,hz⟩:∃ z,(dd l).getLast? = some z:=by
    cases hq:(dd l).getLast? with
    | none=>rw[List.getLast?_eq_none_iff] at hq;rw[hq] at ha;simp at ha
    | some z=>exact⟨z,rfl⟩
   rw[hz] at e;obtain⟨p,hp⟩:=List.getLast?_eq_some_iff.1 hz;have hs:=ih h1;rw[hp] at ha hs;rcases List.mem_append.1 ha with ha | ha
   ·have:=(List.pairwise_append.1 hs).2.2 a ha z (by simp)
    have hzl:z∈l:=(dd_mem l z).1 (List.mem_of_getLast? hz);have:=h3 z hzl a (by simp)
    simp_all
   ·simp at ha;subst ha;exact e rfl
structure Table (b:Z2) (W:List ByteArray):Prop where
 up:Z5g W
 mem:∀ x,x∈W↔x∈allW b.f1
 len:W.length≤2048
theorem words16 (b:Z2) (hl:b.f1.length≤64) (hk:∀ r∈b.f1,Z7y r.f0):∃ W,Z14.f b=some W∧Table b W:=by
 have hal:=allW_len b.f1 hk;obtain⟨r,e,h1,h2⟩:=ssort (allW b.f1) (by omega);refine⟨dd r,?_,dd_strict r h2,fun x => ?_,?_⟩
 ·unfold           Z14.f
  rw[wl_l0 b hl hk b.f1 [] [] 0 rfl rfl (by simp;omega),sb,List.nil_append,e,sb,compact_eq r (by rw[h1.length_eq];omega),sb]
 ·rw[dd_mem,h1.mem_iff]
 ·have:=dd_len r;rw[h1.length_eq] at this;omega
theorem parts16_l0:∀ (ws:List ByteArray) (s:ByteArray) (acc:List ByteArray),(∀ w∈ws,w.size≤64)→L s=Z55 ws→acc.length+ws.length≤1000000→Z30.l0 s acc=some (acc++ws):=by
 intro ws
 induction ws with
 | nil =>
  intro s acc _ h _;have:s.size=0:=by rw[← Z56,h];rfl
  rw[Z30.l0,if_neg (by simp[this])];simp
 | cons w ws ih =>
  intro s acc hw h hn;have hw0:=hw w (by simp);rw[Z41] at h;have hsz:s.size=1+w.size+(Z55 ws).length:=by rw[← Z56,h,List.length_append,Zan];omega
  have hb:bt s 0=((w.size:Nat):Int):=by
   have:(L s)[0]? = some (UInt8.ofNat w.size):=by rw[h];rfl
   have:=bt_L (i:=0) this;rw[UInt8.toNat_ofNat',Nat.mod_eq_of_lt (by omega)] at this;exact this
  simp only[List.length_cons] at hn;rw[Z30.l0,if_pos (by simp;omega),chkB (by omega),hb,Z8 (n:=((w.size:Nat):Int)) (by omega) (by omega),Z8 (n:=((w.size:Nat):Int)+1) (by omega) (by omega),chkB (by omega),chkB (by simp;omega),chkB (by omega)];have e1:s.extract (Int.toNat 1) (Int.toNat ((w.size:Int)+1))=w:=by
   apply ext_L;rw[Z8c,h,show Int.toNat 1=1 from rfl,show Int.toNat ((w.size:Int)+1)=w.size+1 by omega,show w.size+1-1=w.size by omega];show((L w++Z55 ws)).take w.size=L w;rw[← Z56 w];simp
  have e2:L (s.extract (Int.toNat ((w.size:Int)+1)) (Int.toNat (s.size:Int)))=Z55 ws:=by
   rw[Z8c,h,show Int.toNat ((w.size:Int)+1)=(word w).length by rw[Zan];omega,List.drop_left];rw[List.take_of_length_le (by rw[Zan];omega)]
  rw[e1,ih _ (acc++[w]) (fun x hx=>hw x (by simp[hx])) e2 (by simp;omega)];simp
theorem parts16 {k:ByteArray} (h:Z7y k):Z30.f k=some (kw k):=by
 unfold Z30.f;rw[parts16_l0 (kw k) k [] h.s h.l (by have:=Zds h;simp;omega),sb,List.nil_append]
def insW (w:ByteArray) (l:List ByteArray):List ByteArray:=if(l.dropWhile (fun x=>bl x w)).head? = some w then l else l.takeWhile (fun x=>bl x w)++w::l.dropWhile (fun x=>bl x w)
theorem insW_mem (w:ByteArray) (l:List ByteArray) (x:ByteArray):x∈insW w l↔x=w∨x∈l:=by
 unfold insW;split
 ·rename_i h
  have:w∈l:=by
   have h2:=List.mem_of_mem_head? h;exact(List.dropWhile_sublist _).subset h2
  constructor
  ·exact .inr
  ·rintro(rfl | h)
   ·exact this
   ·exact h
 ·rw[List.mem_append,List.mem_cons]
  conv=>rhs;rw[← List.takeWhile_append_dropWhile (p:=fun x=>bl x w) (l:=l),List.mem_append]
  constructor
  ·rintro(h | h | h)
   ·exact .inr (.inl h)
   ·exact .inl h
   ·exact .inr (.inr h)
  ·rintro(h | h | h)
   ·exact .inr (.inl h)
   ·exact .inl h
   ·exact .inr (.inr h)
theorem insW_strict {w:ByteArray} {l:List ByteArray} (h:Z5g l):Z5g (insW w l):=by
 unfold insW;split
 ·exact h
 ·rename_i hne
  have h2:=h;rw[← List.takeWhile_append_dropWhile (p:=fun x=>bl x w) (l:=l)] at h2;obtain⟨p1,p2,p3⟩:=List.pairwise_append.1 h2;have hA:∀ a∈l.takeWhile (fun x=>bl x w),bl a w=true:=fun a ha=>List.all_eq_true.1 (List.all_takeWhile (p:=fun x=>bl x w) (l:=l)) a ha
  have hB:∀ b∈l.dropWhile (fun x=>bl x w),bl w b=true:=by
   cases hd:l.dropWhile (fun x=>bl x w) with
   | nil=>simp
   | cons y r =>
    rw[hd] at hne p2;have hy:bl y w=false:=by
     have:=List.head?_dropWhile_not (fun x=>bl x w) l;rw[hd] at this;simpa using this
    have hyw:y≠w:=fun e=>hne (by rw[e];rfl);have h3:bl w y=true:=by
     cases h4:bl w y with
     | true=>rfl
     | false=>exact absurd (bl_tri' hy h4) hyw
    intro b hb;rcases List.mem_cons.1 hb with rfl | hb
    ·exact h3
    ·exact Z9w _ _ _ h3 ((List.pairwise_cons.1 p2).1 b hb)
  refine List.pairwise_append.2 ⟨p1,List.pairwise_cons.2 ⟨hB,p2⟩,fun a ha b hb => ?_⟩;rcases List.mem_cons.1 hb with rfl | hb
  ·exact hA a ha
  ·exact p3 a ha b hb
theorem insW_len (w:ByteArray) (l:List ByteArray):(insW w l).length≤l.length+1:=by
 unfold insW;split
 ·omega
 ·have:=congrArg List.length (List.takeWhile_append_dropWhile (p:=fun x=>bl x w) (l:=l))
  simp only[List.length_append,List.length_cons] at this ⊢;omega
theorem rw_l2 (b:Z0g) (t:List ByteArray) (j:Int) (W:List ByteArray) (k:Int) (w:ByteArray) (hw:at? t k=some w) (hl:W.length≤1000000):∀ (suf pre:List ByteArray) (i:Int),W=pre++suf→i=(pre.length:Int) →
  Zc.l2 b t j W k i=some ((pre.length+(suf.takeWhile (fun x=>bl x w)).length:Nat):Int):=by
 intro suf
 induction suf with
 | nil =>
  intro pre i h1 hi;rw[Zc.l2,if_neg (by rw[h1];simp[hi]),sb,if_neg (by simp)];simp[hi]
 | cons x suf ih =>
  intro pre i h1 hi;have hlen:W.length=pre.length+(suf.length+1):=by rw[h1];simp
  rw[Zc.l2,if_pos (by simp;omega),Z06 h1 hi,sb,hw,sb,sb];rw[List.takeWhile_cons];show(if bl x w=true then _ else _)=_;cases h:bl x w with
  | true =>
   rw[if_pos rfl,if_pos rfl,Z8 (by omega) (by omega),ih (pre++[x]) (i+1) (by simp[h1]) (by simp;omega)];congr 2;simp;omega
  | false=>rw[if_neg (by simp),if_neg (by simp)];simp[hi]
theorem rw_l1 (b:Z0g) (t:List ByteArray) (j:Int) (hl:t.length≤1000):∀ (suf pre:List ByteArray) (W:List ByteArray) (i:Int),t=pre++suf→i=(pre.length:Int)→W.length+suf.length≤1000000 →
  Zc.l1 b t j W i=some (suf.foldl (fun W w=>insW w W) W):=by
 intro suf
 induction suf with
 | nil=>intro pre W i h1 hi _;rw[Zc.l1,if_neg (by rw[h1];simp[hi])];rfl
 | cons w suf ih =>
  intro pre W i h1 hi hn;have hlen:t.length=pre.length+(suf.length+1):=by rw[h1];simp
  simp only[List.length_cons] at hn;have hw:at? t i=some w:=Z06 h1 hi;rw[Zc.l1,if_pos (by simp;omega),rw_l2 b t j W i w hw (by omega) W [] 0 rfl rfl,sb,hw];simp only[List.length_nil,Nat.zero_add];have hW:=List.takeWhile_append_dropWhile (p:=fun x=>bl x w) (l:=W);generalize hA:W.takeWhile (fun x=>bl x w)=A at *;have key:(((if(decide (((A.length:Nat):Int)<(W.length:Int)))=true then((at? W ((A.length:Nat):Int))>>=fun b9150=>(some w)>>=fun b9153=>some (b9150.toList==b9153.toList)) else(some false)):Option (Bool)))=some (decide ((W.dropWhile (fun x=>bl x w)).head? = some w)):=by
   cases hd:W.dropWhile (fun x=>bl x w) with
   | nil=>rw[hd,List.append_nil] at hW;rw[hW,if_neg (by simp)];rfl
   | cons y r =>
    rw[hd] at hW;have hWl:W.length=A.length+(r.length+1):=by rw[← hW];simp
    rw[if_pos (by simp;omega),Z06 (pre:=A) (suf:=r) hW.symm rfl,sb,sb,eqB];simp
  rw[key,sb];have hins:=insW_len w W;by_cases hh:(W.dropWhile (fun x=>bl x w)).head? = some w
  ·rw[if_pos (decide_eq_true hh),sb,Z8     (by omega) (by omega),ih (pre++[w]) W (i+1) (by simp[h1]) (by simp;omega) (by omega)]
   simp only[List.foldl_cons];congr 1;unfold insW;rw[if_pos hh]
  ·have hWl:A.length≤W.length:=by rw[← hW];simp
   have d1:((W.drop (Int.toNat (0:Int))).take ((Int.toNat ((A.length:Nat):Int))-(Int.toNat (0:Int))))=A:=by
    rw[show Int.toNat (0:Int)=0 from rfl,Int.toNat_natCast,List.drop_zero,Nat.sub_zero]
    conv=>lhs;rw[← hW]
    exact List.take_left
   have d2:((W.drop (Int.toNat ((A.length:Nat):Int))).take ((Int.toNat (W.length:Int))-(Int.toNat ((A.length:Nat):Int))))=W.dropWhile (fun x=>bl x w):=by
    rw[Int.toNat_natCast,Int.toNat_natCast]
    conv=>lhs;rw[← hW]
    rw[List.drop_left,List.take_of_length_le (by simp)]
   have hdl:A.length+(W.dropWhile (fun x=>bl x w)).length=W.length:=by have:=congrArg List.length hW;rwa [List.length_append] at this
   rw[if_neg (by simpa using hh),chkB (by omega),d1,chkB (by omega),sb,chkB (by simp only[List.length_nil,List.length_cons];omega),chkB (by omega),d2,chkB (by simp only[List.length_append,List.length_nil,List.length_cons];omega),sb,Z8 (by omega) (by omega)];have e:insW w W=(A++[w])++W.dropWhile (fun x=>bl x w):=by unfold insW;rw[if_neg hh,hA];simp
   rw[← e,ih (pre++[w]) (insW w W) (i+1) (by simp[h1]) (by simp;omega) (by omega)];rfl
theorem fold_ins:∀ (ws W:List ByteArray),Z5g W→Z5g (ws.foldl (fun W w=>insW w W) W)∧(∀ x,x∈ws.foldl (fun W w=>insW w W) W↔x∈W∨x∈ws)∧(ws.foldl (fun W w=>insW w W) W).length≤W.length+ws.length
 | [],W,h=>⟨h,by simp,by simp⟩
 | w::ws,W,h=>by
  obtain⟨h1,h2,h3⟩:=fold_ins ws (insW w W) (insW_strict h);have:=insW_len w W;refine⟨h1,fun x => ?_,?_⟩
  ·rw[List.foldl_cons,h2,insW_mem,List.mem_cons]
   constructor
   ·rintro((h | h) | h)
    ·exact .inr (.inl h)
    ·exact .inl h
    ·exact .inr (.inr h)
   ·rintro(h | h | h)
    ·exact .inl (.inr h)
    ·exact .inl (.inl h)
    ·exact .inr h
  ·rw[List.foldl_cons,List.length_cons];omega
theorem rw_l0 (b:Z0g) (hl:b.f3.length≤64) (hk:∀ r∈b.f3,Z7y r.f0):∀ (suf pre:List Zp) (W:List ByteArray) (i:Int),b.f3=pre++suf→i=(pre.length:Int)→Z5g W→W.length+32*suf.length≤100000 →
  ∃ W',Zc.l0 b W i=some W'∧Z5g W'∧∀ x,x∈W'↔x∈W∨x∈allW suf:=by
 intro suf
 induction suf with
 | nil=>intro pre W i h1 hi hs _;rw[Zc.l0,if_neg (by rw[h1];simp[hi])];exact⟨W,rfl,hs,by simp[allW]⟩
 | cons r suf ih =>
  intro pre W i h1 hi hs hn;have hlen:b.f3.length=pre.length+(suf.length+1):=by rw[h1];simp
  have hr:=hk r (by rw[h1];simp);have hkl:=Zds hr;simp only[List.length_cons] at hn;obtain⟨f1,f2,f3⟩:=fold_ins (kw r.f0) W hs;rw[Zc.l0,if_pos (by simp;omega),Z06 h1 hi,sb,parts16 hr,sb,rw_l1 b (kw r.f0) i (by omega) (kw r.f0) [] W 0 rfl rfl (by omega),sb,Z8 (by omega) (by omega)];obtain⟨W',e,g1,g2⟩:=ih (pre++[r]) _ (i+1) (by simp[h1]) (by simp;omega) f1 (by omega);refine⟨W',e,g1,fun x => ?_⟩;rw[g2,f2];simp only[allW,List.flatMap_cons,List.mem_append,or_assoc]
theorem rwords16 (b:Z0g) (hl:b.f3.length≤64) (hk:∀ r∈b.f3,Z7y r.f0) {W:List ByteArray} (h:Table (Zek b) W):Zc.l0 b [] 0=some W:=by
 obtain⟨W',e,g1,g2⟩:=rw_l0 b hl hk b.f3 [] [] 0 rfl rfl List.Pairwise.nil (by simp;omega);rw[e];congr 1;refine Zd9 g1 h.up fun x => ?_;rw[g2,h.mem];simp[Zek]
end Go.Proofs.YtpoihfcehejgfaaGreat.PvGS2
