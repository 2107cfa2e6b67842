import Derived.Test.YtlclecehlekjoaaGreatPxChunkCuts14
set_option linter.unusedVariables false
set_option linter.unusedSimpArgs false
set_option maxRecDepth 10000
namespace Go.Proofs.YtlclecehlekjoaaGreat.PvGK
open Go Go.Pv Go.Pv.GS Go.IntKind
def Z5n (l:List Za):Prop:=∀ pre s suf,l=pre++s::suf→Z04.f pre s=some true
theorem fits_nil (s:Za):Z04.f [] s=some true:=by unfold Z04.f;rw[if_pos (by simp)]
theorem Z5n.one (s:Za):Z5n [s]:=by
 intro pre x suf h
 cases pre with
 | nil=>exact fits_nil x
 | cons y r=>simp at h
theorem Z5n.pre {a b:List Za} (h:Z5n (a++b)):Z5n a:=fun pre s suf e=>h pre s (suf++b) (by rw[e];simp)
theorem Z5n.snoc {a:List Za} {s:Za} (h:Z5n a) (hs:Z04.f a s=some true):Z5n (a++[s]):=by
 intro pre x suf e
 rcases List.eq_nil_or_concat suf with rfl | ⟨S,y,rfl⟩
 ·obtain⟨rfl,e2⟩:=List.append_inj' e rfl
  simp at e2;subst e2;exact hs
 ·rw[List.concat_eq_append] at e
  have e3:a++[s]=(pre++x::S)++[y]:=by rw[e];simp
  obtain⟨rfl,_⟩:=List.append_inj' e3 rfl
  exact h pre x S rfl
structure SOk (s:Za):Prop where
 v:Z1q s.f1
 f:Fits s.f1
 t:0≤s.f0∧s.f0≤1099511627776
theorem tst (x:Int):((if(decide (x<(0:Int)))=true then(some true) else(some (decide (x>(1099511627776:Int))))):Option (Bool))=some (!decide (0≤x∧x≤1099511627776)):=by
 by_cases c:x<0
 ·rw[if_pos (by simpa using c),decide_eq_false (by omega)];rfl
 ·rw[if_neg (by simpa using c)]
  by_cases c2:x>1099511627776
  ·rw[decide_eq_true c2,decide_eq_false (by omega)];rfl
  ·rw[decide_eq_false c2,decide_eq_true (by omega)];rfl
theorem check0 {s:Za} (h:SOk s):Z0l.f s.f1=some 0:=by
 obtain⟨r,e1,_,e3⟩:=Z7d s.f1 h.f (by have:=h.v.pos.len;omega) (by have:=h.v.neg.len;omega)
 rw[e1,e3.2 h.v]
open Classical in
theorem grow_l0 (l:List Za) (hl:l.length≤900) (hk:∀ s∈l,SOk s):∀ (suf pre:List Za) (i:Int),l=pre++suf→i=(pre.length:Int) →
  Z08.l0 l i=some (if ∀ p s q,suf=p++s::q→Z04.f (pre++p) s=some true then .inr () else .inl 6):=by
 intro suf
 induction suf with
 | nil =>
  intro pre i h1 hi
  rw[Z08.l0,if_neg (by rw[h1];simp[hi]),if_pos (fun p s q h=>by simp at h)]
 | cons s suf ih =>
  intro pre i h1 hi
  have hlen:l.length=pre.length+(suf.length+1):=by rw[h1];simp
  have hs:=hk s (by rw[h1];simp)
  have hb:¬ ((!decide (0≤s.f0∧s.f0≤1099511627776))=true):=by rw[decide_eq_true hs.t];decide
  obtain⟨r,f1,_⟩:=fits_p pre s (by omega) (fun x hx=>by
   have:x∈l:=by rw[h1];rcases List.mem_append.1 hx with hx | hx;exact List.mem_append_left _ hx;simp at hx;subst hx;simp
   exact⟨(hk x this).v,(hk x this).f⟩) hs.t
  rw[Z08.l0,if_pos (by simp;omega),Z10 h1 hi,sb,tst,sb,if_neg hb,check0 hs,sb,if_neg (by simp),chkB (by omega),Z7t h1 hi,Zl (n:=i+1) (by omega) (by omega),f1,sb]
  cases r with
  | false =>
   rw[if_pos (show(!false)=true from rfl),if_neg]
   intro h
   have:=h [] s suf rfl
   rw[List.append_nil,f1] at this;simp at this
  | true =>
   rw[if_neg (show ¬ ((!true)=true) by simp),ih (pre++[s]) (i+1) (by simp[h1]) (by simp;omega)]
   congr 1
   by_cases c:∀ p x q,suf=p++x::q→Z04.f (pre++[s]++p) x=some true
   ·rw[if_pos c,if_pos]
    intro p x q e
    cases p with
    | nil=>simp at e;obtain⟨rfl,rfl⟩:=e;rw[List.append_nil];exact f1
    | cons y p=>simp at e;obtain⟨rfl,rfl⟩:=e;have:=c p x q rfl;simpa using this
   ·rw[if_neg c,if_neg]
    intro h
    refine c (fun p x q e => ?_)
    have:=h (s::p) x q (by rw[e];rfl)
    simpa using this
open Classical in
theorem grow_chk (l:List Za) (hl:l.length≤900) (hne:l≠[]) (hk:∀ s∈l,SOk s):Z08.f l=some (if Z5n l then 0 else 6):=by
 have hn:¬ (((l.length:Int)==0)=true):=by
  have:l.length≠0:=fun h=>hne (List.length_eq_zero_iff.1 h)
  simp;omega
 unfold Z08.f
 rw[if_neg hn,grow_l0 l hl hk l [] 0 rfl rfl,sb]
 have e:(∀ p s q,l=p++s::q→Z04.f ([]++p) s=some true)↔Z5n l:=by simp[Z5n]
 by_cases h:Z5n l
 ·rw[if_pos (e.2 h),if_pos h]
 ·rw[if_neg (fun x=>h (e.1 x)),if_neg h]
structure Z8t (C:List (List Za)):Prop where
 ne:∀ c∈C,c≠[]∧Z5n c
 gap:∀ i c c',C[i]? = some c→C[i+1]? = some c'→∃ s r,c'=s::r∧Z04.f c s=some false
theorem flat_len {C:List (List Za)} (h:∀ c∈C,c≠[]):C.length≤C.flatten.length:=by
 induction C with
 | nil=>simp
 | cons c C ih =>
  have h1:=ih (fun x hx=>h x (by simp[hx]))
  have h2:=List.length_pos_iff.2 (h c (by simp))
  simp only[List.flatten_cons,List.length_append,List.length_cons];omega
theorem Z8t.last {D:List (List Za)} {c c2:List Za} {s:Za} {r:List Za} (h:Z8t (D++[c])) (hc:c=s::r) (hc2:∃ r2,c2=s::r2) (g:Z5n c2):Z8t (D++[c2]):=by
 obtain⟨r2,rfl⟩:=hc2
 refine⟨fun x hx => ?_,fun i x x' h1 h2 => ?_⟩
 ·rcases List.mem_append.1 hx with hx | hx
  ·exact h.ne x (by simp[hx])
  ·simp at hx;subst hx;exact⟨by simp,g⟩
 ·by_cases hi:i+1<D.length
  ·rw[List.getElem?_append_left (by omega)] at h1 h2
   exact h.gap i x x' (by rw[List.getElem?_append_left (by omega)];exact h1) (by rw[List.getElem?_append_left (by omega)];exact h2)
  ·rw[List.getElem?_append_right (by omega)] at h2
   obtain⟨h3,h4⟩:=List.getElem?_eq_some_iff.1 h2
   simp only[List.length_singleton] at h3
   have e:i+1=D.length:=by omega
   rw[List.getElem?_append_left (by omega)] at h1
   obtain⟨s',r',e1,e2⟩:=h.gap i x c (by rw[List.getElem?_append_left (by omega)];exact h1) (by rw[List.getElem?_append_right (by omega),e];simp)
   rw[hc] at e1
   obtain⟨rfl,rfl⟩:=List.cons.inj e1
   refine⟨s,r2,?_,e2⟩
   rw[← h4];simp[e]
theorem Z8t.snoc {D:List (List Za)} {c:List Za} {s:Za} (h:Z8t (D++[c])) (hs:Z04.f c s=some false):Z8t (D++[c]++[[s]]):=by
 refine⟨fun x hx => ?_,fun i x x' h1 h2 => ?_⟩
 ·rcases List.mem_append.1 hx with hx | hx
  ·exact h.ne x hx
  ·simp at hx;subst hx;exact⟨by simp,Z5n.one s⟩
 ·by_cases hi:i+1<(D++[c]).length
  ·rw[List.getElem?_append_left (by omega)] at h1 h2
   exact h.gap i x x' h1 h2
  ·rw[List.getElem?_append_right (by omega)] at h2
   obtain⟨h3,h4⟩:=List.getElem?_eq_some_iff.1 h2
   simp only[List.length_singleton] at h3
   have e:i=D.length:=by simp at hi h3;omega
   rw[List.getElem?_append_left (by simp;omega),e,List.getElem?_append_right (by omega)] at h1
   simp at h1
   subst h1
   refine⟨s,[],?_,hs⟩
   rw[← h4];simp[e]
theorem cut_l0 (l:List Za) (hl:l.length≤900) (hk:∀ s∈l,SOk s):∀ (suf:List Za) (dn:List (List Za)) (cu:List Za) (i:Int),l=dn.flatten++cu++suf→i=((dn.flatten++cu).length:Int)→Z8t (dn++[cu]) →
  ∃ C,Z1k.l0 l dn cu i=some C∧C.flatten=l∧Z8t C∧((∀ p s q,suf=p++s::q→Z04.f (cu++p) s=some true)→C=dn++[cu++suf]):=by
 intro suf
 induction suf with
 | nil =>
  intro dn cu i h1 hi hC
  refine⟨dn++[cu],?_,by rw[h1];simp,hC,fun _=>by simp⟩
  rw[Z1k.l0,if_neg (by rw[h1];simp[hi])]
 | cons s suf ih =>
  intro dn cu i h1 hi hC
  have hlen:l.length=(dn.flatten++cu).length+(suf.length+1):=by rw[h1,List.length_append];rfl
  have hdn:=flat_len (C:=dn) (fun c hc=>(hC.ne c (by simp[hc])).1)
  have hn:(dn.flatten++cu).length=dn.flatten.length+cu.length:=List.length_append
  have hi1:((dn.flatten++cu++[s]).length:Int)=i+1:=by rw[hi,List.length_append];simp
  have hs:=hk s (by rw[h1];simp)
  obtain⟨r,f1,_⟩:=fits_p cu s (by omega) (fun x hx=>by
   have:x∈l:=by rw[h1];rcases List.mem_append.1 hx with hx | hx;simp[hx];simp at hx;subst hx;simp
   exact⟨(hk x this).v,(hk x this).f⟩) hs.t
  have hi2:i<1000:=by omega
  rw[Z1k.l0,if_pos (decide_eq_true (by omega)),Z10 h1 hi,sb,chkB (by omega),f1,sb,Zl (n:=i+1) (by omega) (by omega)]
  cases r with
  | false =>
   rw[if_pos (show(!false)=true from rfl)]
   obtain⟨C,e1,e2,e3,e4⟩:=ih (dn++[cu]) [s] (i+1) (by rw[h1];simp) (by rw[← hi1];simp) (hC.snoc f1)
   refine⟨C,e1,e2,e3,fun h => ?_⟩
   have:=h [] s suf rfl
   rw[List.append_nil,f1] at this;simp at this
  | true =>
   have hcu:=hC.ne cu (by simp)
   obtain⟨x,R,hx⟩:∃ x R,cu=x::R:=by cases cu with | nil=>exact absurd rfl hcu.1 | cons x R=>exact⟨x,R,rfl⟩
   rw[if_neg (show ¬ ((!true)=true) by simp),chkB (by omega)]
   obtain⟨C,e1,e2,e3,e4⟩:=ih dn (cu++[s]) (i+1) (by rw[h1];simp) (by rw[← hi1];simp) (hC.last hx ⟨R++[s],by rw[hx];rfl⟩ (hcu.2.snoc f1))
   refine⟨C,e1,e2,e3,fun h => ?_⟩
   rw[e4 (fun p y q e=>by have:=h (s::p) y q (by rw[e];rfl);simpa using this)]
   simp
theorem cut_ok (l:List Za) (hl:l.length≤900) (hk:∀ s∈l,SOk s):∃ C,Z1k.f l=some C∧C.flatten=l∧Z8t C∧(l≠[]→Z5n l→C=[l]):=by
 unfold Z1k.f
 cases l with
 | nil=>exact⟨[],rfl,rfl,⟨by simp,by simp⟩,by simp⟩
 | cons s suf =>
  rw[if_pos (by simp),show at? (s::suf) 0=some s from rfl,sb,Zl (by omega) (by omega)]
  obtain⟨C,e1,e2,e3,e4⟩:=cut_l0 (s::suf) hl hk suf [] [s] (0+1) (by simp) (by simp) ⟨by simp;exact Z5n.one s,by intro i c c' h1 h2;cases i<;>simp at h2⟩
  refine⟨C,e1,e2,e3,fun _ h => ?_⟩
  rw[e4 (fun p x q e=>h ([s]++p) x q (by rw[e];rfl))]
  rfl
end Go.Proofs.YtlclecehlekjoaaGreat.PvGK
set_option linter.unusedVariables false
set_option linter.unusedSimpArgs false
set_option maxRecDepth 10000
namespace Go.Proofs.YtlclecehlekjoaaGreat.PvGK
open Go Go.Pv Go.Pv.GS Go.IntKind
theorem light_low (l:List Za) (hl:l.length<1000000000000000) (hk:∀ s∈l,s.f1.f6.length≤512∧s.f1.f7.length≤512):∀ (suf pre:List Za) (x i:Int),l=pre++suf→i=(pre.length:Int)→0≤x→x≤2000*i →
  ∃ r,Z19.l0 l x i=some r∧x+suf.length≤r:=by
 intro suf
 induction suf with
 | nil=>intro pre x i h1 hi _ _;rw[Z19.l0,if_neg (by rw[h1];simp[hi])];exact⟨_,rfl,by simp⟩
 | cons s suf ih =>
  intro pre x i h1 hi h0 hx
  have hlen:l.length=pre.length+(suf.length+1):=by rw[h1];simp
  obtain⟨k1,k2⟩:=hk s (by rw[h1];simp)
  rw[Z19.l0,if_pos (by simp;omega),Z10 h1 hi,sb,Zl (n:=i+1) (by omega) (by omega),Zl (n:=(s.f1.f6.length:Int)+(s.f1.f7.length:Int)) (by omega) (by omega),Zl (n:=(s.f1.f6.length:Int)+(s.f1.f7.length:Int)+1) (by omega) (by omega),Zl (n:=x+_) (by omega) (by omega)]
  obtain⟨r,e,h⟩:=ih (pre++[s]) (x+((s.f1.f6.length:Int)+(s.f1.f7.length:Int)+1)) (i+1) (by simp[h1]) (by simp;omega) (by omega) (by omega)
  exact⟨r,e,by simp only[List.length_cons];omega⟩
theorem ccuts_l0 (l:List Za) (hl:l.length≤140737488351232) (hR:∀ s∈l,RSample s):∀ (suf pre:List Za) (i:Int),l=pre++suf→i=(pre.length:Int) →
  Zp.l0 l i=some (.inl true)∨(Zp.l0 l i=some (.inr ())∧∀ s∈suf,SOk s):=by
 intro suf
 induction suf with
 | nil=>intro pre i h1 hi;right;rw[Zp.l0,if_neg (by rw[h1];simp[hi])];exact⟨rfl,by simp⟩
 | cons s suf ih =>
  intro pre i h1 hi
  have hlen:l.length=pre.length+(suf.length+1):=by rw[h1];simp
  have hs:=hR s (by rw[h1];simp)
  have hf:=fits_of hs.r1
  obtain⟨e,_,e2,e3⟩:=Z7d s.f1 hf (by have:=hs.r1.r6.1;omega) (by have:=hs.r1.r7.1;omega)
  rw[Zp.l0,if_pos (by simp;omega),Z10 h1 hi,sb,e2,sb]
  by_cases he:e=0
  case neg=>left;rw[if_pos (by simpa using he),sb,if_pos rfl,awake9,sb]
  rw[if_neg (by simpa using he),tst,sb]
  by_cases ht:0≤s.f0∧s.f0≤1099511627776
  case neg=>left;rw[if_pos (by rw[decide_eq_false ht];rfl),awake9,sb]
  rw[if_neg (by rw[decide_eq_true ht];decide),Zl (n:=i+1) (by omega) (by omega)]
  rcases ih (pre++[s]) (i+1) (by simp[h1]) (by simp;omega) with h | ⟨h,h2⟩
  ·exact .inl h
  ·refine .inr ⟨h,fun x hx => ?_⟩
   rcases List.mem_cons.1 hx with rfl | hx
   ·exact⟨e3.1 he,hf,ht⟩
   ·exact h2 x hx
theorem ccuts_l1 (l:List Za) (hl:l.length≤900) (hk:∀ s∈l,SOk s) (C:List (List Za)) (hC:Z8t C) (hfl:C.flatten=l):∀ (suf pre:List (List Za)) (i:Int),C=pre++suf→i=(pre.length:Int) →
  Zp.l1 l C pre.flatten i=some (.inr l):=by
 intro suf
 induction suf with
 | nil=>intro pre i h1 hi;rw[Zp.l1,if_neg (by rw[h1];simp[hi])];rw[← hfl,h1];simp
 | cons c suf ih =>
  intro pre i h1 hi
  have hlen:C.length=pre.length+(suf.length+1):=by rw[h1];simp
  have hcl:=flat_len (fun c hc=>(hC.ne c hc).1)
  rw[hfl] at hcl
  have hn:pre.flatten.length+c.length≤l.length:=by rw[← hfl,h1,List.flatten_append,List.flatten_cons,List.length_append,List.length_append];omega
  obtain⟨c1,c2⟩:=hC.ne c (by rw[h1];simp)
  have hm:∀ d∈C,∀ s∈d,SOk s:=fun d hd s hs=>hk s (by rw[← hfl];exact List.mem_flatten.2 ⟨d,hd,hs⟩)
  have hkc:=hm c (by rw[h1];simp)
  obtain⟨e,k1,k2,_⟩:=chk_eq c (by omega) (fun s hs=>⟨(hkc s hs).f,by have:=(hkc s hs).v.pos.len;omega,by have:=(hkc s hs).v.neg.len;omega⟩)
  rw[grow_chk c (by omega) c1 hkc,if_pos c2] at k1
  obtain rfl:=Option.some.inj k1
  have hi2:i<1000:=by omega
  rw[Zp.l1,if_pos (decide_eq_true (by omega)),Z10 h1 hi,sb,k2,sb,if_neg (show ¬ ((0:Int) != 0)=true by decide)]
  have hg:∀ (x:Option Bool),x=some false→(x>>=fun x4913=>if x4913=true then(some (.inl false)) else((chk ((pre.flatten.length+c.length)*104≤140737488355328))>>=fun _=>Zp.l1 l C (pre.flatten++c) (i64.wrap (i+(1:Int)))))=(some (.inr l):Option (Bool ⊕ List Za)):=by
   rintro x rfl
   rw[sb,if_neg (by simp),chkB (by omega),Zl (n:=i+1) (by omega) (by omega)]
   have:=ih (pre++[c]) (i+1) (by simp[h1]) (by simp;omega)
   rw[List.flatten_append] at this
   simpa using this
  refine hg _ ?_
  rcases List.eq_nil_or_concat pre with rfl | ⟨Q,d,rfl⟩
  ·rw[if_neg (by simp[hi])]
  ·rw[List.concat_eq_append] at *
   have hi3:i=(Q.length:Int)+1:=by rw[hi];simp
   rw[if_pos (decide_eq_true (by omega)),Zl (n:=i-1) (by omega) (by omega)]
   rw[show at? C (i-1)=some d from by
    have:=Z10 (i:=i-1) (l:=C) (pre:=Q) (x:=d) (suf:=c::suf) (by rw[h1];simp) (by omega)
    exact this,sb]
   obtain⟨s,r,e1,e2⟩:=hC.gap Q.length d c (by rw[h1];simp) (by rw[h1];simp)
   subst e1
   have hd:=hm d (by rw[h1];simp)
   have hdl:d.length≤l.length:=by rw[← hfl,h1];simp;omega
   obtain⟨z,f1,f2,_⟩:=fits_eq d s (by omega) (fun x hx=>by
    rcases List.mem_append.1 hx with hx | hx
    ·exact⟨(hd x hx).v,(hd x hx).f⟩
    ·simp at hx;subst hx;exact⟨(hkc x (by simp)).v,(hkc x (by simp)).f⟩) (hkc s (by simp)).t
   rw[e2] at f1
   obtain rfl:=Option.some.inj f1
   rw[show at? (s::r) 0=some s from rfl,sb,f2,sb]
theorem ccuts_l2 (l x:List Za) (hl:l.length≤900) (hk:∀ s∈l,SOk s):∀ (suf pre:List Za) (i:Int),l=pre++suf→i=(pre.length:Int)→Zp.l2 l x i=some (.inr ()):=by
 intro suf
 induction suf with
 | nil=>intro pre i h1 hi;rw[Zp.l2,if_neg (by rw[h1];simp[hi])]
 | cons s suf ih =>
  intro pre i h1 hi
  have hlen:l.length=pre.length+(suf.length+1):=by rw[h1];simp
  obtain⟨z,f1,f2,_⟩:=fits_eq pre s (by omega) (fun x hx=>by
   have:x∈l:=by rw[h1];rcases List.mem_append.1 hx with hx | hx;exact List.mem_append_left _ hx;simp at hx;subst hx;simp
   exact⟨(hk x this).v,(hk x this).f⟩) (hk s (by rw[h1];simp)).t
  rw[Zp.l2,if_pos (by simp;omega),chkB (by omega),Z10 h1 hi,sb,Z7t h1 hi,f1,sb,f2,sb,if_neg (by simp),Zl (n:=i+1) (by omega) (by omega)]
  exact ih (pre++[s]) (i+1) (by simp[h1]) (by simp;omega)
theorem chunkCuts_R (l:List Za) (hl:l.length≤140737488351232∧∀ y∈l,RSample y):Zp.f l=some true:=by
 obtain⟨hl0,hR⟩:=hl
 unfold Zp.f
 obtain⟨g,eg⟩:=light9 l (by omega)
 rw[eg,sb]
 cases g with
 | false=>rw[if_pos (show(!false)=true from rfl),awake9,sb]
 | true =>
  rw[if_neg (show ¬ (!true)=true by simp)]
  rcases ccuts_l0 l hl0 hR l [] 0 rfl rfl with h | ⟨h,hk⟩
  ·rw[h,sb]
  ·rw[h,sb]
   dsimp only
   have h9:l.length≤900:=by
    obtain⟨r,e,h⟩:=light_low l (by omega) (fun s hs=>⟨(hk s hs).v.pos.len,(hk s hs).v.neg.len⟩) l [] 0 0 rfl rfl (by omega) (by omega)
    unfold Z19.f at eg
    rw[e,sb] at eg
    have:=of_decide_eq_true (Option.some.inj eg)
    omega
   obtain⟨C,e1,e2,e3,_⟩:=cut_ok l h9 hk
   rw[e1,sb,show([]:List Za)=([]:List (List Za)).flatten from rfl,ccuts_l1 l h9 hk C e3 e2 C [] 0 rfl rfl,sb]
   dsimp only
   rw[ccuts_l2 l l h9 hk l [] 0 rfl rfl,sb]
   dsimp only
   rw[awake9,sb,if_pos rfl,same9_eq l l (by omega) (fun s hs=>by have:=(hk s hs).v.pos.len;have:=(hk s hs).v.neg.len;omega),sb,sb,decide_eq_true rfl]
end Go.Proofs.YtlclecehlekjoaaGreat.PvGK
