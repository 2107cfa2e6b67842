import Derived.Test.YtcilcefjcaimoaaGreatPxGroupOnes16
set_option linter.unusedVariables false
set_option linter.unusedSimpArgs false
set_option maxRecDepth 10000
namespace Go.Proofs.YtcilcefjcaimoaaGreat.PvGQ
open Go Go.Pv Go.Pv.GS Go.IntKind
theorem awake20:Z4d.f=some true:=by cbv
abbrev RL (l:List Zr):Prop:=l.length≤1048576∧∀ s∈l,RSeries s
theorem light20_l1 (l:List Zr) (b:Zr) (hb:RSeries b) (c:Int):∀ (suf pre:List Z06) (x i:Int),b.f1=pre++suf→i=(pre.length:Int)→0≤x→x+2097153*(suf.length:Int)≤9000000000000000000 →
  ∃ x',Z1d.l1 l b c x i=some x'∧x+(suf.length:Int)≤x'∧x'≤x+2097153*(suf.length:Int):=by
 intro suf;have hbl:=hb.r1.1
 induction suf with
 | nil=>intro pre x i h1 hi h0 hx;rw[Z1d.l1,if_neg (by rw[h1];simp[hi])];exact⟨x,rfl,by simp,by simp⟩
 | cons s suf ih =>
  intro pre x i h1 hi h0 hx;have hlen:b.f1.length=pre.length+(suf.length+1):=by rw[h1];simp
  have hs:=hb.r1.2 s (by rw[h1];simp);have h6:=hs.r1.r6.1;have h7:=hs.r1.r7.1;simp only[List.length_cons] at hx ⊢;rw[Z1d.l1,if_pos (by simp;omega),Z0t h1 hi,sb,Zh (n:=(1:Int)+(s.f1.f6.length:Int)) (by omega) (by omega),Zh (n:=(1:Int)+(s.f1.f6.length:Int)+(s.f1.f7.length:Int)) (by omega) (by omega),Zh (n:=x+((1:Int)+(s.f1.f6.length:Int)+(s.f1.f7.length:Int))) (by omega) (by omega),Zh (n:=i+1) (by omega) (by omega)];obtain⟨x',e,g1,g2⟩:=ih (pre++[s]) (x+((1:Int)+(s.f1.f6.length:Int)+(s.f1.f7.length:Int))) (i+1) (by simp[h1]) (by simp;omega) (by omega) (by omega);exact⟨x',e,by omega,by omega⟩
def serW:List Zr→Int
 | []=>0
 | s::l=>1+(s.f1.length:Int)+serW l
theorem serW_len:∀ l:List Zr,(l.length:Int)≤serW l
 | []=>by simp[serW]
 | s::l=>by have:=serW_len l;simp only[serW,List.length_cons];omega
theorem serW_mem:∀ (l:List Zr) (s:Zr),s∈l→(s.f1.length:Int)≤serW l
 | x::l,s,h=>by
  have:=serW_len l;simp only[serW];rcases List.mem_cons.1 h with rfl | h
  ·omega
  ·have:=serW_mem l s h;omega
theorem light20_l0 (l:List Zr) (hR:RL l):∀ (suf pre:List Zr) (x i:Int),l=pre++suf→i=(pre.length:Int)→0≤x→x+2199024304129*(suf.length:Int)≤9000000000000000000 →
  ∃ r,Z1d.l0 l x i=some r∧(r = .inl false∨∃ x',r = .inr x'∧x+serW suf≤x'):=by
 intro suf;have hll:=hR.1
 induction suf with
 | nil=>intro pre x i h1 hi h0 hx;rw[Z1d.l0,if_neg (by rw[h1];simp[hi])];exact⟨_,rfl,.inr ⟨x,rfl,by simp[serW]⟩⟩
 | cons s suf ih =>
  intro pre x i h1 hi h0 hx;have hlen:l.length=pre.length+(suf.length+1):=by rw[h1];simp
  have hs:=hR.2 s (by rw[h1];simp);have hsl:=hs.r1.1;have hf:=hs.r0.1;simp only[List.length_cons] at hx;obtain⟨b,eb⟩:=light10 s.f0 (by omega);rw[Z1d.l0,if_pos (by simp;omega),Z0t h1 hi,sb,eb,sb];cases b
  ·rw[if_pos (by simp)];exact⟨_,rfl,.inl rfl⟩
  ·rw[if_neg (by simp),Zh     (n:=x+1) (by omega) (by omega)]
   obtain⟨x',e,g1,g2⟩:=light20_l1 l s hs i s.f1 [] (x+1) 0 rfl rfl (by omega) (by omega);rw[e,sb,Zh (n:=i+1) (by omega) (by omega)];obtain⟨r,e2,hr⟩:=ih (pre++[s]) x' (i+1) (by simp[h1]) (by simp;omega) (by omega) (by omega);refine⟨r,e2,?_⟩;rcases hr with h | ⟨y,h,g⟩
   ·exact .inl h
   ·exact .inr ⟨y,h,by simp only[serW];omega⟩
structure Rig (l:List Zr):Prop where
 ok:∀ s∈l,chkC s.f0=0∧Ups s.f1
 up:l.Pairwise (fun a b=>cmpL a.f0 b.f0<0)
theorem right20_l0 (l:List Zr) (hR:RL l):∀ (suf pre:List Zr) (i:Int),l=pre++suf→i=(pre.length:Int)→Rig pre→∃ r,Z31.l0 l i=some r∧(r = .inl false∨(r = .inr ()∧Rig l)):=by
 intro suf;have hll:=hR.1
 induction suf with
 | nil=>intro pre i h1 hi hg;rw[List.append_nil] at h1;subst h1;rw[Z31.l0,if_neg (by simp[hi])];exact⟨_,rfl,.inr ⟨rfl,hg⟩⟩
 | cons s suf ih =>
  intro pre i h1 hi hg;have hlen:l.length=pre.length+(suf.length+1):=by rw[h1];simp
  have hs:=hR.2 s (by rw[h1];simp);have hsl:=hs.r1.1;have hf:=hs.r0.1;obtain⟨rr,er,hrr⟩:=rising_l0 s.f1 (by omega) hs.r1.2 s.f1 [] 0 rfl rfl ⟨fun s hs=>(by cases hs),List.Pairwise.nil⟩;have hris:∃ b,Z21.f s.f1=some b∧(b=true→Ups s.f1):=by
   unfold Z21.f;rw[er,sb];rcases hrr with rfl | ⟨rfl,h⟩
   ·exact⟨false,rfl,by simp⟩
   ·exact⟨true,rfl,fun _=>h⟩
  obtain⟨b,eb,hb⟩:=hris;rw[Z31.l0,if_pos (by simp;omega),Z0t h1 hi,sb,rcheck s.f0,sb];by_cases hc:chkC s.f0=0
  case neg=>rw[if_pos (show(chkC s.f0 != (0:Int))=true by simpa using hc),sb,if_pos rfl];exact⟨_,rfl,.inl rfl⟩
  rw[if_neg (show ¬ ((chkC s.f0 != (0:Int))=true) by simpa using hc),eb,sb];have go:∀ (hlast:∀ p∈pre,cmpL p.f0 s.f0<0),∃ r,((some (!b):Option Bool)>>=fun x565=>if x565=true then(some (.inl false)) else(Z31.l0 l (i64.wrap (i+(1:Int)))))=some r∧(r = .inl false∨(r = .inr ()∧Rig l)):=by
   intro hlast;cases b
   ·rw[sb,if_pos (by rfl)];exact⟨_,rfl,.inl rfl⟩
   ·rw[sb,if_neg (by simp),Zh     (by omega) (by omega)]
    refine ih (pre++[s]) (i+1) (by simp[h1]) (by simp;omega) ⟨fun x hx => ?_,List.pairwise_append.2 ⟨hg.up,by simp,fun p hp q hq => ?_⟩⟩
    ·rcases List.mem_append.1 hx with hx | hx
     ·exact hg.ok x hx
     ·simp at hx;subst hx;exact⟨hc,hb rfl⟩
    ·simp at hq;subst hq;exact hlast p hp
  rcases List.eq_nil_or_concat pre with hn | ⟨P,p,hp⟩
  ·subst hn
   rw[if_neg (show ¬ (decide (i>(0:Int))=true) by simp[hi])];exact go (fun p hp=>by cases hp)
  ·simp only[List.concat_eq_append] at hp
   have hpl:pre.length=P.length+1:=by rw[hp];simp
   have hpR:=hR.2 p (by rw[h1,hp];simp);have hpf:=hpR.r0.1;rw[if_pos (show decide (i>(0:Int))=true by simp;omega),Zh (n:=i-1) (by omega) (by omega),Z0t (l:=l) (pre:=P) (x:=p) (suf:=s::suf) (by rw[h1,hp];simp) (by omega),sb,rcmp _ _ (by omega) (by omega),sb];by_cases hlt:cmpL p.f0 s.f0≥0
   ·rw[if_pos (show decide (cmpL p.f0 s.f0≥0)=true by simpa using hlt),sb,if_pos rfl];exact⟨_,rfl,.inl rfl⟩
   ·rw[if_neg (show ¬ (decide (cmpL p.f0 s.f0≥0)=true) by simpa using hlt)]
    refine go (fun q hq => ?_);rw[hp] at hq;rcases List.mem_append.1 hq with hq | hq
    ·have hu:=hg.up;rw[hp] at hu
     exact Z9u _ _ _ ((List.pairwise_append.1 hu).2.2 q hq p (by simp)) (by omega)
    ·simp at hq;subst hq;omega
theorem light20 (l:List Zr) (hR:RL l):∃ b,Z1d.f l=some b∧(b=true→Ser l∧Rig l):=by
 have hll:=hR.1;unfold Z1d.f;obtain⟨r,e,hr⟩:=light20_l0 l hR l [] 0 0 rfl rfl (by omega) (by omega);rw[e,sb];rcases hr with rfl | ⟨x,rfl,hx⟩
 ·exact⟨false,rfl,by simp⟩
 ·dsimp only
  by_cases hn:x≤400
  case neg=>rw[if_neg (by simpa using hn),sb];exact⟨false,rfl,by simp⟩
  rw[if_pos (by simpa using hn)];unfold Z31.f;obtain⟨r2,e2,hr2⟩:=right20_l0 l hR l [] 0 rfl rfl ⟨fun s hs=>(by cases hs),List.Pairwise.nil⟩;rw[e2,sb];rcases hr2 with rfl | ⟨rfl,hg⟩
  ·exact⟨false,rfl,by simp⟩
  ·refine⟨true,rfl,fun _=>⟨⟨?_,fun s hs=>(hR.2 s hs).r0.1,fun s hs=>⟨fun t ht=>⟨((hg.ok s hs).2.ok t ht).1,fits_of ((hR.2 s hs).r1.2 t ht).r1⟩,?_⟩⟩,hg⟩⟩
   ·have:=serW_len l;omega
   ·have:=serW_mem l s hs;omega
theorem rows_small (a:Z1r) (j:Bool) (n:List ByteArray) (l:List Zr) (h:Ser l) (hp:U64 a.f1) (ho:U64 a.f2) (ks:List (List Zo)) (hk:Keys (fun s=>keyL j n s.f0) l ks):(ks.map (rowP a j n l)).length≤400∧∀ r∈ks.map (rowP a j n l),Z6f r.f1.f0∧r.f0.length≤1048576:=by
 have:=hk.len;have:=h.len;refine⟨by simp;omega,fun r hr => ?_⟩;obtain⟨k,hk1,rfl⟩:=List.mem_map.1 hr;obtain⟨o1,o2,o3⟩:=oneP_eq a j n (grp (fun s=>keyL j n s.f0) l k) (Nat.le_trans (Zbo ..) h.len) (fun s hs=>h.lit s (Z9s hs).1) hp ho;refine⟨o3,?_⟩;obtain⟨s,hs,e⟩:=(hk.mem k).1 hk1;have e':keyL j n s.f0=k:=e;have:=Zaq j n s.f0;have:=h.lab s hs;show k.length≤1048576;rw[← e'];omega
end Go.Proofs.YtcilcefjcaimoaaGreat.PvGQ
