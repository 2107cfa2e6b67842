import Derived.Test.YtcilcefjcaimoaaGreatPxGroupWindows16
set_option linter.unusedVariables false
set_option linter.unusedSimpArgs false
set_option maxRecDepth 10000
namespace Go.Proofs.YtcilcefjcaimoaaGreat.PvGQ
open Go Go.Pv Go.Pv.GS Go.IntKind
theorem awake20:Z40.f=some true:=by cbv
abbrev RL (l:List Zh):Prop:=l.length≤1048576∧∀ s∈l,RSeries s
theorem light20_l1 (l:List Zh) (b:Zh) (hb:RSeries b) (c:Int):∀ (suf pre:List Zv) (x i:Int),b.f1=pre++suf→i=(pre.length:Int)→0≤x→x+2097153*(suf.length:Int)≤9000000000000000000 →
  ∃ x',Z0v.l1 l b c x i=some x'∧x+(suf.length:Int)≤x'∧x'≤x+2097153*(suf.length:Int):=by
 intro suf;have hbl:=hb.r1.1
 induction suf with
 | nil=>intro pre x i h1 hi h0 hx;rw[Z0v.l1,if_neg (by rw[h1];simp[hi])];exact⟨x,rfl,by simp,by simp⟩
 | cons s suf ih =>
  intro pre x i h1 hi h0 hx;have hlen:b.f1.length=pre.length+(suf.length+1):=by rw[h1];simp
  have hs:=hb.r1.2 s (by rw[h1];simp);have h6:=hs.r1.r6.1;have h7:=hs.r1.r7.1;simp only[List.length_cons] at hx ⊢;rw[Z0v.l1,if_pos (by simp;omega),Z0a h1 hi,sb,Ze (n:=(1:Int)+(s.f1.f6.length:Int)) (by omega) (by omega),Ze (n:=(1:Int)+(s.f1.f6.length:Int)+(s.f1.f7.length:Int)) (by omega) (by omega),Ze (n:=x+((1:Int)+(s.f1.f6.length:Int)+(s.f1.f7.length:Int))) (by omega) (by omega),Ze (n:=i+1) (by omega) (by omega)];obtain⟨x',e,g1,g2⟩:=ih (pre++[s]) (x+((1:Int)+(s.f1.f6.length:Int)+(s.f1.f7.length:Int))) (i+1) (by simp[h1]) (by simp;omega) (by omega) (by omega);exact⟨x',e,by omega,by omega⟩
def serW:List Zh→Int
 | []=>0
 | s::l=>1+(s.f1.length:Int)+serW l
theorem serW_len:∀ l:List Zh,(l.length:Int)≤serW l
 | []=>by simp[serW]
 | s::l=>by have:=serW_len l;simp only[serW,List.length_cons];omega
theorem serW_mem:∀ (l:List Zh) (s:Zh),s∈l→(s.f1.length:Int)≤serW l
 | x::l,s,h=>by
  have:=serW_len l;simp only[serW];rcases List.mem_cons.1 h with rfl | h
  ·omega
  ·have:=serW_mem l s h;omega
theorem light20_l0 (l:List Zh) (hR:RL l):∀ (suf pre:List Zh) (x i:Int),l=pre++suf→i=(pre.length:Int)→0≤x→x+2199024304129*(suf.length:Int)≤9000000000000000000 →
  ∃ r,Z0v.l0 l x i=some r∧(r = .inl false∨∃ x',r = .inr x'∧x+serW suf≤x'):=by
 intro suf;have hll:=hR.1
 induction suf with
 | nil=>intro pre x i h1 hi h0 hx;rw[Z0v.l0,if_neg (by rw[h1];simp[hi])];exact⟨_,rfl,.inr ⟨x,rfl,by simp[serW]⟩⟩
 | cons s suf ih =>
  intro pre x i h1 hi h0 hx;have hlen:l.length=pre.length+(suf.length+1):=by rw[h1];simp
  have hs:=hR.2 s (by rw[h1];simp);have hsl:=hs.r1.1;have hf:=hs.r0.1;simp only[List.length_cons] at hx;obtain⟨b,eb⟩:=light10 s.f0 (by omega);rw[Z0v.l0,if_pos (by simp;omega),Z0a h1 hi,sb,eb,sb];cases b
  ·rw[if_pos (by simp)];exact⟨_,rfl,.inl rfl⟩
  ·rw[if_neg (by simp),Ze     (n:=x+1) (by omega) (by omega)]
   obtain⟨x',e,g1,g2⟩:=light20_l1 l s hs i s.f1 [] (x+1) 0 rfl rfl (by omega) (by omega);rw[e,sb,Ze (n:=i+1) (by omega) (by omega)];obtain⟨r,e2,hr⟩:=ih (pre++[s]) x' (i+1) (by simp[h1]) (by simp;omega) (by omega) (by omega);refine⟨r,e2,?_⟩;rcases hr with h | ⟨y,h,g⟩
   ·exact .inl h
   ·exact .inr ⟨y,h,by simp only[serW];omega⟩
structure Rig (l:List Zh):Prop where
 ok:∀ s∈l,chkC s.f0=0∧Ups s.f1
 up:l.Pairwise (fun a b=>cmpL a.f0 b.f0<0)
theorem right20_l0 (l:List Zh) (hR:RL l):∀ (suf pre:List Zh) (i:Int),l=pre++suf→i=(pre.length:Int)→Rig pre→∃ r,Z2i.l0 l i=some r∧(r = .inl false∨(r = .inr ()∧Rig l)):=by
 intro suf;have hll:=hR.1
 induction suf with
 | nil=>intro pre i h1 hi hg;rw[List.append_nil] at h1;subst h1;rw[Z2i.l0,if_neg (by simp[hi])];exact⟨_,rfl,.inr ⟨rfl,hg⟩⟩
 | cons s suf ih =>
  intro pre i h1 hi hg;have hlen:l.length=pre.length+(suf.length+1):=by rw[h1];simp
  have hs:=hR.2 s (by rw[h1];simp);have hsl:=hs.r1.1;have hf:=hs.r0.1;obtain⟨rr,er,hrr⟩:=rising_l0 s.f1 (by omega) hs.r1.2 s.f1 [] 0 rfl rfl ⟨fun s hs=>(by cases hs),List.Pairwise.nil⟩;have hris:∃ b,Z1l.f s.f1=some b∧(b=true→Ups s.f1):=by
   unfold Z1l.f;rw[er,sb];rcases hrr with rfl | ⟨rfl,h⟩
   ·exact⟨false,rfl,by simp⟩
   ·exact⟨true,rfl,fun _=>h⟩
  obtain⟨b,eb,hb⟩:=hris;rw[Z2i.l0,if_pos (by simp;omega),Z0a h1 hi,sb,rcheck s.f0,sb];by_cases hc:chkC s.f0=0
  case neg=>rw[if_pos (show(chkC s.f0 != (0:Int))=true by simpa using hc),sb,if_pos rfl];exact⟨_,rfl,.inl rfl⟩
  rw[if_neg (show ¬ ((chkC s.f0 != (0:Int))=true) by simpa using hc),eb,sb];have go:∀ (hlast:∀ p∈pre,cmpL p.f0 s.f0<0),∃ r,((some (!b):Option Bool)>>=fun x565=>if x565=true then(some (.inl false)) else(Z2i.l0 l (i64.wrap (i+(1:Int)))))=some r∧(r = .inl false∨(r = .inr ()∧Rig l)):=by
   intro hlast;cases b
   ·rw[sb,if_pos (by rfl)];exact⟨_,rfl,.inl rfl⟩
   ·rw[sb,if_neg (by simp),Ze     (by omega) (by omega)]
    refine ih (pre++[s]) (i+1) (by simp[h1]) (by simp;omega) ⟨fun x hx => ?_,List.pairwise_append.2 ⟨hg.up,by simp,fun p hp q hq => ?_⟩⟩
    ·rcases List.mem_append.1 hx with hx | hx
     ·exact hg.ok x hx
     ·simp at hx;subst hx;exact⟨hc,hb rfl⟩
    ·simp at hq;subst hq;exact hlast p hp
  rcases List.eq_nil_or_concat pre with hn | ⟨P,p,hp⟩
  ·subst hn
   rw[if_neg (show ¬ (decide (i>(0:Int))=true) by simp[hi])];exact go (fun p hp=>by cases hp)
  ·simp only[List.concat_eq_append] at hp
   have hpl:pre.length=P.length+1:=by rw[hp];simp
   have hpR:=hR.2 p (by rw[h1,hp];simp);have hpf:=hpR.r0.1;rw[if_pos (show decide (i>(0:Int))=true by simp;omega),Ze (n:=i-1) (by omega) (by omega),Z0a (l:=l) (pre:=P) (x:=p) (suf:=s::suf) (by rw[h1,hp];simp) (by omega),sb,rcmp _ _ (by omega) (by omega),sb];by_cases hlt:cmpL p.f0 s.f0≥0
   ·rw[if_pos (show decide (cmpL p.f0 s.f0≥0)=true by simpa using hlt),sb,if_pos rfl];exact⟨_,rfl,.inl rfl⟩
   ·rw[if_neg (show ¬ (decide (cmpL p.f0 s.f0≥0)=true) by simpa using hlt)]
    refine go (fun q hq => ?_);rw[hp] at hq;rcases List.mem_append.1 hq with hq | hq
    ·have hu:=hg.up;rw[hp] at hu
     exact Z8z _ _ _ ((List.pairwise_append.1 hu).2.2 q hq p (by simp)) (by omega)
    ·simp at hq;subst hq;omega
theorem light20 (l:List Zh) (hR:RL l):∃ b,Z0v.f l=some b∧(b=true→Ser l∧Rig l):=by
 have hll:=hR.1;unfold Z0v.f;obtain⟨r,e,hr⟩:=light20_l0 l hR l [] 0 0 rfl rfl (by omega) (by omega);rw[e,sb];rcases hr with rfl | ⟨x,rfl,hx⟩
 ·exact⟨false,rfl,by simp⟩
 ·dsimp only
  by_cases hn:x≤400
  case neg=>rw[if_neg (by simpa using hn),sb];exact⟨false,rfl,by simp⟩
  rw[if_pos (by simpa using hn)];unfold Z2i.f;obtain⟨r2,e2,hr2⟩:=right20_l0 l hR l [] 0 rfl rfl ⟨fun s hs=>(by cases hs),List.Pairwise.nil⟩;rw[e2,sb];rcases hr2 with rfl | ⟨rfl,hg⟩
  ·exact⟨false,rfl,by simp⟩
  ·refine⟨true,rfl,fun _=>⟨⟨?_,fun s hs=>(hR.2 s hs).r0.1,fun s hs=>⟨fun t ht=>⟨((hg.ok s hs).2.ok t ht).1,fits_of ((hR.2 s hs).r1.2 t ht).r1⟩,?_⟩⟩,hg⟩⟩
   ·have:=serW_len l;omega
   ·have:=serW_mem l s hs;omega
theorem rows_small (a:Z0n) (j:Bool) (n:List ByteArray) (l:List Zh) (h:Ser l) (hp:U64 a.f1) (ho:U64 a.f2) (ks:List (List Zi)) (hk:Keys (fun s=>keyL j n s.f0) l ks):(ks.map (rowP a j n l)).length≤400∧∀ r∈ks.map (rowP a j n l),Z5s r.f1.f0∧r.f0.length≤1048576:=by
 have:=hk.len;have:=h.len;refine⟨by simp;omega,fun r hr => ?_⟩;obtain⟨k,hk1,rfl⟩:=List.mem_map.1 hr;obtain⟨o1,o2,o3⟩:=oneP_eq a j n (grp (fun s=>keyL j n s.f0) l k) (Nat.le_trans (Zam ..) h.len) (fun s hs=>h.lit s (Z7x hs).1) hp ho;refine⟨o3,?_⟩;obtain⟨s,hs,e⟩:=(hk.mem k).1 hk1;have e':keyL j n s.f0=k:=e;have:=Z9v j n s.f0;have:=h.lab s hs;show k.length≤1048576;rw[← e'];omega
def Z4n (a:Z0n) (s:Zh):Option Z1:=(s.f1.filter (Z5v a.f5 a.f6)).getLast?.map (·.f1)
theorem of_kind (a:Z0n) (h5:a.f0≠5) (s:Zh) (h:Lit s.f1):Z19.f (toQ a) s.f1=some (match Z4n a s with | some x=>(x,0) | none=>(h0,30)):=by
 have hlen:=h.len;have hw:=h.filter (Z5v a.f5 a.f6);have hwl:=hw.len;unfold Z19.f;rw[win_eq s.f1 (by omega),sb,if_neg (by simpa using h5)];unfold Z4n;rcases List.eq_nil_or_concat (s.f1.filter (Z5v a.f5 a.f6)) with hn | ⟨P,p,hn⟩
 ·dsimp only
  rw[hn,if_pos (by simp)];rfl
 ·simp only[List.concat_eq_append] at hn
  dsimp only;rw[hn] at hw hwl ⊢;have hp:=hw.ok p (by simp);have h6:=hp.1.pos.len;have h7:=hp.1.neg.len;simp only[List.length_append,List.length_cons,List.length_nil] at hwl;rw[if_neg (by simp<;>omega),Ze (by simp<;>omega) (by simp<;>omega),Z0a (pre:=P) (x:=p) (suf:=[]) (by simp) (by simp),sb,Z60 p.f1 (by omega) (by omega),sb];simp
def gsumH (a:Z0n) (hs:List Z1):Option (Z7×Int):=Z20.f hs>>=fun t=>if(t.2 != (0:Int))=true then some (ans0,t.2) else Z0q.f (toQ a) t.1
theorem gone_l0 (a:Z0n) (h5:a.f0≠5) (j:Bool) (n:List ByteArray) (l:List Zh) (hl:l.length≤400) (hL:∀ s∈l,Lit s.f1):∀ (suf pre:List Zh) (i:Int),l=pre++suf→i=(pre.length:Int) →
  Z00.l0 a.f0 a.f1 a.f2 a.f3 a.f4 a.f5 a.f6 j n l (pre.filterMap (Z4n a)) i=if l.length=1∧suf.filterMap (Z4n a)=[]∧suf≠[] then some (.inl (ans0,30)) else some (.inr (l.filterMap (Z4n a))):=by
 intro suf
 induction suf with
 | nil =>
  intro pre i h1 hi;rw[List.append_nil] at h1;subst h1;rw[Z00.l0,if_neg (by simp[hi]),if_neg (by simp)]
 | cons s suf ih =>
  intro pre i h1 hi;have hlen:l.length=pre.length+(suf.length+1):=by rw[h1];simp
  have hfm:(pre.filterMap (Z4n a)).length≤pre.length:=List.length_filterMap_le ..;have e1:Z19.f (⟨a.f0,a.f1,a.f2,(⟨a.f3,a.f4⟩:Zx),a.f5,a.f6⟩:Z16) s.f1=some (match Z4n a s with | some x=>(x,0) | none=>(h0,30)):=of_kind a h5 s (hL s (by rw[h1];simp));have next:=ih (pre++[s]) (i+1) (by simp[h1]) (by simp;omega)
  rw[Z00.l0,if_pos (by simp;omega),Z0a h1 hi,sb,e1,sb,Ze (by omega) (by omega)];cases hh:Z4n a s with
  | none =>
   have hfc:(s::suf).filterMap (Z4n a)=suf.filterMap (Z4n a):=by simp[hh]
   have hpc:(pre++[s]).filterMap (Z4n a)=pre.filterMap (Z4n a):=by simp[hh]
   rw[hpc] at next
   dsimp only;rw[if_pos (show((30:Int)==30)=true by rfl),sb];by_cases hb:l.length=1
   ·have hsn:suf=[]:=by cases suf with | nil=>rfl | cons _ _=>simp at hlen;omega
    subst hsn;rw[if_neg (show ¬ (decide ((l.length:Int)>1)=true) by simp;omega),if_pos (show((30:Int) != 0)=true by rfl),sb,if_pos ⟨hb,by simp[hh],by simp⟩]
   ·rw[if_pos (show decide ((l.length:Int)>1)=true by simp;omega),sb]
    dsimp only;rw[next,if_neg (fun q=>hb q.1),if_neg (fun q=>hb q.1)]
  | some x =>
   have hpc:(pre++[s]).filterMap (Z4n a)=pre.filterMap (Z4n a)++[x]:=by simp[hh]
   rw[hpc] at next
   dsimp only;rw[if_neg (show ¬ (((0:Int)==30)=true) by decide),sb,if_neg (show ¬ (false=true) by simp),if_neg (show ¬ (((0:Int) != 0)=true) by decide),chkB (by simp;omega),sb];dsimp only;rw[next,if_neg (show ¬ (l.length=1∧(s::suf).filterMap (Z4n a)=[]∧s::suf≠[]) by simp[hh]),if_neg];rintro⟨q1,q2,q3⟩;apply q3;cases suf with
   | nil=>rfl
   | cons _ _=>simp at hlen;omega
theorem gone_eq (a:Z0n) (h5:a.f0≠5) (j:Bool) (n:List ByteArray) (l:List Zh) (hl:l.length≤400) (hL:∀ s∈l,Lit s.f1):gone a j n l=gsumH a (l.filterMap (Z4n a)):=by
 unfold gone Z00.f gsumH;have:=gone_l0 a h5 j n l hl hL l [] 0 rfl rfl;rw[show([]:List Zh).filterMap (Z4n a)=[] from rfl] at this;rw[this];by_cases c:l.length=1∧l.filterMap (Z4n a)=[]∧l≠[]
 ·rw[if_pos c,sb,c.2.1,show Z20.f []=some (h0,30) from rfl,sb,if_pos (by rfl)]
 ·rw[if_neg c,sb]
  dsimp only;cases Z20.f (l.filterMap (Z4n a)) with
  | none=>rfl
  | some t =>
   rw[sb,sb];by_cases c2:(t.2 != (0:Int))=true
   ·rw[if_pos c2,if_pos c2]
   ·rw[if_neg c2,if_neg c2]
    show(Z0q.f (toQ a) t.1>>=fun t2878=>some t2878)=_;cases Z0q.f (toQ a) t.1<;>rfl
def hasW (a:Z0n) (s:Zh):Bool:=(Z4n a s).isSome
theorem win_l0 (a:Z0n) (h5:a.f0≠5) (n:List ByteArray) (l:List Zh) (h:Ser l):∀ (suf pre:List Zh) (i:Int),l=pre++suf→i=(pre.length:Int) →
  Zy.l0 a n l (pre.filter (hasW a)) i=some (l.filter (hasW a)):=by
 intro suf;have hll:=h.len
 induction suf with
 | nil=>intro pre i h1 hi;rw[List.append_nil] at h1;subst h1;rw[Zy.l0,if_neg (by simp[hi])]
 | cons s suf ih =>
  intro pre i h1 hi;have hlen:l.length=pre.length+(suf.length+1):=by rw[h1];simp
  have hfl:(pre.filter (hasW a)).length≤pre.length:=List.length_filter_le ..;have next:=ih (pre++[s]) (i+1) (by simp[h1]) (by simp;omega)
  have e1:Z19.f (⟨a.f0,a.f1,a.f2,(⟨a.f3,a.f4⟩:Zx),a.f5,a.f6⟩:Z16) s.f1=some (match Z4n a s with | some x=>(x,0) | none=>(h0,30)):=of_kind a h5 s (h.lit s (by rw[h1];simp));rw[Zy.l0,if_pos (by simp;omega),Z0a h1 hi,sb];unfold Z5z.f;rw[sb];dsimp only;rw[e1,sb,Ze (by omega) (by omega)];cases hh:Z4n a s with
  | none =>
   have hpc:(pre++[s]).filter (hasW a)=pre.filter (hasW a):=by simp[hasW,hh]
   rw[hpc] at next
   dsimp only;rw[if_neg (show ¬ (((30:Int)==0)=true) by decide),sb];exact next
  | some x =>
   have hpc:(pre++[s]).filter (hasW a)=pre.filter (hasW a)++[s]:=by simp[hasW,hh]
   rw[hpc] at next
   dsimp only;rw[if_pos (show((0:Int)==0)=true by rfl),chkB (by simp;omega),sb];exact next
theorem Z65 {α β:Type} (f:α→Option β):∀ l:List α,(l.filter (fun x=>(f x).isSome)).filterMap f=l.filterMap f
 | []=>rfl
 | x::l=>by
  cases e:f x with
  | none=>rw[List.filter_cons,if_neg (by simp[e]),Z65 f l];simp[e]
  | some y=>rw[List.filter_cons,if_pos (by simp[e]),List.filterMap_cons_some e,List.filterMap_cons_some e,Z65 f l]
theorem grp_in (a:Z0n) (K:Zh→List Zi) (l:List Zh) (k:List Zi):(grp K (l.filter (hasW a)) k).filterMap (Z4n a)=(grp K l k).filterMap (Z4n a):=by
 rw[← Z65 (Z4n a) (grp K l k)];congr 1;unfold grp;rw[List.filter_filter,List.filter_filter];congr 1;funext s;exact Bool.and_comm ..
theorem Ser.filter {l:List Zh} (h:Ser l) (p:Zh→Bool):Ser (l.filter p) :=
 ⟨Nat.le_trans (List.length_filter_le ..) h.len,fun s hs=>h.lab s (List.mem_filter.1 hs).1,fun s hs=>h.lit s (List.mem_filter.1 hs).1⟩
theorem row_in (a:Z0n) (h5:a.f0≠5) (j:Bool) (n:List ByteArray) (l:List Zh) (h:Ser l) (k:List Zi):rowP a j n (l.filter (hasW a)) k=rowP a j n l k:=by
 have hl:∀ l:List Zh,Ser l→gone a j n (grp (fun s=>keyL j n s.f0) l k)=gsumH a ((grp (fun s=>keyL j n s.f0) l k).filterMap (Z4n a)):=fun l h =>
  gone_eq a h5 j n _ (Nat.le_trans (Zam ..) h.len) (fun s hs=>h.lit s (Z7x hs).1)
 have:oneP a j n (grp (fun s=>keyL j n s.f0) (l.filter (hasW a)) k)=oneP a j n (grp (fun s=>keyL j n s.f0) l k):=by
  unfold oneP;rw[hl _ (h.filter _),hl _ h,grp_in]
 unfold rowP;rw[this]
theorem row_out (a:Z0n) (h5:a.f0≠5) (j:Bool) (n:List ByteArray) (l:List Zh) (h:Ser l) (k:List Zi) (hk:∀ s∈l,keyL j n s.f0=k→Z4n a s=none):(rowP a j n l k).f2=30:=by
 have e:(grp (fun s=>keyL j n s.f0) l k).filterMap (Z4n a)=[]:=by
  rw[List.filterMap_eq_nil_iff];intro s hs;obtain⟨h1,h2⟩:=Z7x hs;exact hk s h1 h2
 have:oneP a j n (grp (fun s=>keyL j n s.f0) l k)=(ans0,30):=by
  unfold oneP;rw[gone_eq a h5 j n _ (Nat.le_trans (Zam ..) h.len) (fun s hs=>h.lit s (Z7x hs).1),e];rfl
 show(oneP a j n (grp (fun s=>keyL j n s.f0) l k)).2=30;rw[this]
theorem win_l1 (X:List Zi→Z34) (hX:∀ k,(X k).f0=k) (ks:List (List Zi)) (hl:ks.length≤400) (hup:UpK ks) (p:List Zi→Bool) (hkl:∀ k∈ks,k.length≤1048576) (hs:∀ k∈ks,Z5s (X k).f1.f0) (hout:∀ k∈ks,p k=false→(X k).f2=30):∀ (suf pre:List (List Zi)) (i q:Int),ks=pre++suf→i=(pre.length:Int)→q=((pre.filter p).length:Int) →
  Zy.l1 (ks.map X,0) ((ks.filter p).map X,0) q i=some (.inr ((ks.filter p).length:Int)):=by
 intro suf
 induction suf with
 | nil =>
  intro pre i q h1 hi hq;rw[List.append_nil] at h1;subst h1;rw[Zy.l1,if_neg (by simp[hi]),hq]
 | cons k suf ih =>
  intro pre i q h1 hi hq;have hlen:ks.length=pre.length+(suf.length+1):=by rw[h1];simp
  have hk:k∈ks:=by rw[h1];simp
  have hkk:=hkl k hk;have hf:ks.filter p=pre.filter p++(k::suf).filter p:=by rw[h1,List.filter_append]
  have hfl:(ks.filter p).length≤ks.length:=List.length_filter_le ..;rw[Zy.l1];dsimp only;rw[if_pos (by simp;omega),Z0a (l:=ks.map X) (pre:=pre.map X) (x:=X k) (suf:=suf.map X) (by rw[h1];simp) (by simp[hi]),sb,hX k];cases hp:p k with
  | true =>
   have hf2:ks.filter p=pre.filter p++k::suf.filter p:=by rw[hf,List.filter_cons,if_pos hp]
   have hlt:(pre.filter p).length<(ks.filter p).length:=by rw[hf2];simp
   have hat:at? ((ks.filter p).map X) q=some (X k):=Z0a (pre:=(pre.filter p).map X) (x:=X k) (suf:=(suf.filter p).map X) (by rw[hf2];simp) (by simp[hq]);rw[if_pos (by simp;omega),hat,sb,hX k,rcmp _ _ (by omega) (by omega),Z5o,sb,sb,if_pos (by rfl),sb,if_neg (by simp),esame_self (X k).f1 (hs k hk),sb,sb,if_neg (by simp),sb];dsimp only;rw[Ze (n:=i+1) (by omega) (by omega),Ze (n:=q+1) (by omega) (by omega)];exact ih (pre++[k]) (i+1) (q+1) (by simp[h1]) (by simp;omega) (by simp[hp];omega)
  | false =>
   have hf2:ks.filter p=pre.filter p++suf.filter p:=by rw[hf,List.filter_cons,if_neg (by simp[hp])]
   have hx:((if(decide (q<(((ks.filter p).map X).length:Int)))=true then((at? ((ks.filter p).map X) q)>>=fun b5141=>(Z0x.f k b5141.f0)>>=fun t5144=>some (t5144==(0:Int))) else(some false)):Option Bool)=some false:=by
    cases hsf:suf.filter p with
    | nil=>rw[if_neg];rw[hf2,hsf];simp[hq]
    | cons k2 r =>
     have hk2:k2∈suf.filter p:=by rw[hsf];simp
     obtain⟨m1,m2⟩:=List.mem_filter.1 hk2;have hk2l:=hkl k2 (by rw[h1];simp[m1]);have hat:at? ((ks.filter p).map X) q=some (X k2):=Z0a (pre:=(pre.filter p).map X) (x:=X k2) (suf:=r.map X) (by rw[hf2,hsf];simp) (by simp[hq]);rw[if_pos (by rw[hf2,hsf];simp;omega),hat,sb,hX k2,rcmp _ _ (by omega) (by omega),sb];have:cmpL k k2≠0:=fun e=>by
      have:=(Z76 _ _).1 e;subst this;rw[hp] at m2;exact absurd m2 (by simp)
     congr 1;simpa using this
   rw[hx,sb,if_neg (by simp),if_neg (by rw[hout k hk hp];decide),sb];dsimp only;rw[Ze (n:=i+1) (by omega) (by omega)];exact ih (pre++[k]) (i+1) q (by simp[h1]) (by simp;omega) (by simp[hp];omega)
theorem Zba (a0:Z0n) (a1:List ByteArray) (a2:List Zh) (R0:Rr19_Ask a0) (R1:a1.length≤1048576∧∀ y∈a1,y.size≤1048576) (R2:RL a2):Zy.f a0 a1 a2=some true:=by
 unfold Zy.f;obtain⟨b,eb,hb⟩:=light20 a2 R2;rw[eb,awake20,sb];cases b
 case false=>rw[if_pos (by simp),sb,if_pos rfl,sb]
 rw[if_neg (by simp)];by_cases hg:a0.f0<0∨a0.f0>4∨a1.length>10
 ·have:((if(decide (a0.f0<(0:Int)))=true then(some true) else(if(decide (a0.f0>(4:Int)))=true then(some true) else(some (decide ((a1.length:Int)>(10:Int)))))):Option Bool)=some true:=by
   by_cases c1:a0.f0<0
   ·rw[if_pos (by simpa using c1)]
   ·rw[if_neg (by simpa using c1)]
    by_cases c2:a0.f0>4
    ·rw[if_pos (by simpa using c2)]
    ·rw[if_neg (by simpa using c2),decide_eq_true (by omega)]
  rw[this,sb,if_pos rfl,sb]
 have:((if(decide (a0.f0<(0:Int)))=true then(some true) else(if(decide (a0.f0>(4:Int)))=true then(some true) else(some (decide ((a1.length:Int)>(10:Int)))))):Option Bool)=some false:=by
  rw[if_neg (by simp;omega),if_neg (by simp;omega),decide_eq_false (by omega)]
 rw[this,sb,if_neg (by simp)];obtain⟨hS,hG⟩:=hb rfl;have h5:a0.f0≠5:=by omega
 have w0:=win_l0 a0 h5 a1 a2 hS a2 [] 0 rfl rfl;rw[List.filter_nil] at w0;have hS2:=hS.filter (hasW a0);obtain⟨ks,hk,e⟩:=of_eq a0 true a1 (by omega) a2 hS R0.r1 R0.r2 (by omega);obtain⟨kt,ht,et⟩:=of_eq a0 true a1 (by omega) (a2.filter (hasW a0)) hS2 R0.r1 R0.r2 (by omega);obtain⟨q1,q2⟩:=rows_small a0 true a1 a2 hS R0.r1 R0.r2 ks hk;have hkt:kt=ks.filter (fun k=>decide (k∈kt)):=by
  refine Zbc _ _ ht.up (hk.up.sublist List.filter_sublist) (fun k => ?_);rw[List.mem_filter,decide_eq_true_iff];refine⟨fun h=>⟨?_,h⟩,fun h=>h.2⟩;obtain⟨s,hs,e⟩:=(ht.mem k).1 h;exact(hk.mem k).2 ⟨s,(List.mem_filter.1 hs).1,e⟩
 have hrows:kt.map (rowP a0 true a1 (a2.filter (hasW a0)))=(ks.filter (fun k=>decide (k∈kt))).map (rowP a0 true a1 a2):=by
  rw[← hkt];exact List.map_congr_left (fun k _=>row_in a0 h5 true a1 a2 hS k)
 have hkl:=hk.len;have hsl:=hS.len;have main:=win_l1 (rowP a0 true a1 a2) (fun _=>rfl) ks (by omega) hk.up (fun k=>decide (k∈kt)) (fun k hk'=>(q2 _ (List.mem_map.2 ⟨k,hk',rfl⟩)).2) (fun k hk'=>(q2 _ (List.mem_map.2 ⟨k,hk',rfl⟩)).1) (fun k hk' hno=>by
  refine row_out a0 h5 true a1 a2 hS k (fun s hs es => ?_);cases hh:Z4n a0 s with
  | none=>rfl
  | some x =>
   have:k∈kt:=(ht.mem k).2 ⟨s,List.mem_filter.2 ⟨hs,by simp[hasW,hh]⟩,es⟩;simp[this] at hno) ks [] 0 0 rfl rfl rfl
 rw[w0,sb];unfold Z6s.f Z5z.f;rw[sb,sb];dsimp only;rw[e,sb,sb];dsimp only;rw[et,sb,hrows];dsimp only;rw[if_neg (by simp),sb,if_neg (by simp),main,sb];dsimp only;rw[sb,if_pos rfl,sb,List.length_map];simp
end Go.Proofs.YtcilcefjcaimoaaGreat.PvGQ
