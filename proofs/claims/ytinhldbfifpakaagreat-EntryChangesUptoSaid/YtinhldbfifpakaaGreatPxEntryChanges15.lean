import Derived.Test.YtinhldbfifpakaaGreatPxEntryChanges14
set_option linter.unusedVariables false
set_option linter.unusedSimpArgs false
set_option maxRecDepth 10000
namespace Go.Proofs.YtinhldbfifpakaaGreat.PvGL1
open Go Go.Pv Go.Pv.GS Go.IntKind
def Z88 (l:List Za):Prop:=∀ pre s suf,l=pre++s::suf→Z1o.f pre s=some true
theorem fits_nil (s:Za):Z1o.f [] s=some true:=by unfold Z1o.f;rw[if_pos (by simp)]
theorem Z88.one (s:Za):Z88 [s]:=by
 intro pre x suf h
 cases pre with
 | nil=>exact fits_nil x
 | cons y r=>simp at h
theorem Z88.pre {a b:List Za} (h:Z88 (a++b)):Z88 a:=fun pre s suf e=>h pre s (suf++b) (by rw[e];simp)
theorem Z88.snoc {a:List Za} {s:Za} (h:Z88 a) (hs:Z1o.f a s=some true):Z88 (a++[s]):=by
 intro pre x suf e
 rcases List.eq_nil_or_concat suf with rfl | ⟨S,y,rfl⟩
 ·obtain⟨rfl,e2⟩:=List.append_inj' e rfl
  simp at e2;subst e2;exact hs
 ·rw[List.concat_eq_append] at e
  have e3:a++[s]=(pre++x::S)++[y]:=by rw[e];simp
  obtain⟨rfl,_⟩:=List.append_inj' e3 rfl
  exact h pre x S rfl
structure SOk (s:Za):Prop where
 v:Z3k s.f1
 f:Fits s.f1
 t:0≤s.f0∧s.f0≤1099511627776
theorem tst (x:Int):((if(decide (x<(0:Int)))=true then(some true) else(some (decide (x>(1099511627776:Int))))):Option (Bool))=some (!decide (0≤x∧x≤1099511627776)):=by
 by_cases c:x<0
 ·rw[if_pos (by simpa using c),decide_eq_false (by omega)];rfl
 ·rw[if_neg (by simpa using c)]
  by_cases c2:x>1099511627776
  ·rw[decide_eq_true c2,decide_eq_false (by omega)];rfl
  ·rw[decide_eq_false c2,decide_eq_true (by omega)];rfl
theorem check0 {s:Za} (h:SOk s):Z0f.f s.f1=some 0:=by
 obtain⟨r,e1,e3⟩:=check_any s.f1 h.f
 rw[e1,e3.2 h.v]
open Classical in
theorem grow_l0 (l:List Za) (hl:l.length≤900) (hk:∀ s∈l,SOk s):∀ (suf pre:List Za) (i:Int),l=pre++suf→i=(pre.length:Int) →
  Z1h.l0 l i=some (if ∀ p s q,suf=p++s::q→Z1o.f (pre++p) s=some true then .inr () else .inl 6):=by
 intro suf
 induction suf with
 | nil =>
  intro pre i h1 hi
  rw[Z1h.l0,if_neg (by rw[h1];simp[hi]),if_pos (fun p s q h=>by simp at h)]
 | cons s suf ih =>
  intro pre i h1 hi
  have hlen:l.length=pre.length+(suf.length+1):=by rw[h1];simp
  have hs:=hk s (by rw[h1];simp)
  have hb:¬ ((!decide (0≤s.f0∧s.f0≤1099511627776))=true):=by rw[decide_eq_true hs.t];decide
  obtain⟨r,f1,_⟩:=fits_p pre s (by omega) (fun x hx=>by
   have:x∈l:=by rw[h1];rcases List.mem_append.1 hx with hx | hx;exact List.mem_append_left _ hx;simp at hx;subst hx;simp
   exact⟨(hk x this).v,(hk x this).f⟩) hs.t
  rw[Z1h.l0,if_pos (by simp;omega),Z0a h1 hi,sb,tst,sb,if_neg hb,check0 hs,sb,if_neg (by simp),chkB (by omega),take_pre h1 hi,Zc (n:=i+1) (by omega) (by omega),f1,sb]
  cases r with
  | false =>
   rw[if_pos (show(!false)=true from rfl),if_neg]
   intro h
   have:=h [] s suf rfl
   rw[List.append_nil,f1] at this;simp at this
  | true =>
   rw[if_neg (show ¬ ((!true)=true) by simp),ih (pre++[s]) (i+1) (by simp[h1]) (by simp;omega)]
   congr 1
   by_cases c:∀ p x q,suf=p++x::q→Z1o.f (pre++[s]++p) x=some true
   ·rw[if_pos c,if_pos]
    intro p x q e
    cases p with
    | nil=>simp at e;obtain⟨rfl,rfl⟩:=e;rw[List.append_nil];exact f1
    | cons y p=>simp at e;obtain⟨rfl,rfl⟩:=e;have:=c p x q rfl;simpa using this
   ·rw[if_neg c,if_neg]
    intro h
    refine c (fun p x q e => ?_)
    have:=h (s::p) x q (by rw[e];rfl)
    simpa using this
open Classical in
theorem grow_chk (l:List Za) (hl:l.length≤900) (hne:l≠[]) (hk:∀ s∈l,SOk s):Z1h.f l=some (if Z88 l then 0 else 6):=by
 have hn:¬ (((l.length:Int)==0)=true):=by
  have:l.length≠0:=fun h=>hne (List.length_eq_zero_iff.1 h)
  simp;omega
 unfold Z1h.f
 rw[if_neg hn,grow_l0 l hl hk l [] 0 rfl rfl,sb]
 have e:(∀ p s q,l=p++s::q→Z1o.f ([]++p) s=some true)↔Z88 l:=by simp[Z88]
 by_cases h:Z88 l
 ·rw[if_pos (e.2 h),if_pos h]
 ·rw[if_neg (fun x=>h (e.1 x)),if_neg h]
structure CutOK (C:List (List Za)):Prop where
 ne:∀ c∈C,c≠[]∧Z88 c
 gap:∀ i c c',C[i]? = some c→C[i+1]? = some c'→∃ s r,c'=s::r∧Z1o.f c s=some false
theorem flat_len {C:List (List Za)} (h:∀ c∈C,c≠[]):C.length≤C.flatten.length:=by
 induction C with
 | nil=>simp
 | cons c C ih =>
  have h1:=ih (fun x hx=>h x (by simp[hx]))
  have h2:=List.length_pos_iff.2 (h c (by simp))
  simp only[List.flatten_cons,List.length_append,List.length_cons];omega
theorem CutOK.last {D:List (List Za)} {c c2:List Za} {s:Za} {r:List Za} (h:CutOK (D++[c])) (hc:c=s::r) (hc2:∃ r2,c2=s::r2) (g:Z88 c2):CutOK (D++[c2]):=by
 obtain⟨r2,rfl⟩:=hc2
 refine⟨fun x hx => ?_,fun i x x' h1 h2 => ?_⟩
 ·rcases List.mem_append.1 hx with hx | hx
  ·exact h.ne x (by simp[hx])
  ·simp at hx;subst hx;exact⟨by simp,g⟩
 ·by_cases hi:i+1<D.length
  ·rw[List.getElem?_append_left (by omega)] at h1 h2
   exact h.gap i x x' (by rw[List.getElem?_append_left (by omega)];exact h1) (by rw[List.getElem?_append_left (by omega)];exact h2)
  ·rw[List.getElem?_append_right (by omega)] at h2
   obtain⟨h3,h4⟩:=List.getElem?_eq_some_iff.1 h2
   simp only[List.length_singleton] at h3
   have e:i+1=D.length:=by omega
   rw[List.getElem?_append_left (by omega)] at h1
   obtain⟨s',r',e1,e2⟩:=h.gap i x c (by rw[List.getElem?_append_left (by omega)];exact h1) (by rw[List.getElem?_append_right (by omega),e];simp)
   rw[hc] at e1
   obtain⟨rfl,rfl⟩:=List.cons.inj e1
   refine⟨s,r2,?_,e2⟩
   rw[← h4];simp[e]
theorem CutOK.snoc {D:List (List Za)} {c:List Za} {s:Za} (h:CutOK (D++[c])) (hs:Z1o.f c s=some false):CutOK (D++[c]++[[s]]):=by
 refine⟨fun x hx => ?_,fun i x x' h1 h2 => ?_⟩
 ·rcases List.mem_append.1 hx with hx | hx
  ·exact h.ne x hx
  ·simp at hx;subst hx;exact⟨by simp,Z88.one s⟩
 ·by_cases hi:i+1<(D++[c]).length
  ·rw[List.getElem?_append_left (by omega)] at h1 h2
   exact h.gap i x x' h1 h2
  ·rw[List.getElem?_append_right (by omega)] at h2
   obtain⟨h3,h4⟩:=List.getElem?_eq_some_iff.1 h2
   simp only[List.length_singleton] at h3
   have e:i=D.length:=by simp at hi h3;omega
   rw[List.getElem?_append_left (by simp;omega),e,List.getElem?_append_right (by omega)] at h1
   simp at h1
   subst h1
   refine⟨s,[],?_,hs⟩
   rw[← h4];simp[e]
theorem cut_l0 (l:List Za) (hl:l.length≤900) (hk:∀ s∈l,SOk s):∀ (suf:List Za) (dn:List (List Za)) (cu:List Za) (i:Int),l=dn.flatten++cu++suf→i=((dn.flatten++cu).length:Int)→CutOK (dn++[cu]) →
  ∃ C,Z2h.l0 l dn cu i=some C∧C.flatten=l∧CutOK C∧((∀ p s q,suf=p++s::q→Z1o.f (cu++p) s=some true)→C=dn++[cu++suf]):=by
 intro suf
 induction suf with
 | nil =>
  intro dn cu i h1 hi hC
  refine⟨dn++[cu],?_,by rw[h1];simp,hC,fun _=>by simp⟩
  rw[Z2h.l0,if_neg (by rw[h1];simp[hi])]
 | cons s suf ih =>
  intro dn cu i h1 hi hC
  have hlen:l.length=(dn.flatten++cu).length+(suf.length+1):=by rw[h1,List.length_append];rfl
  have hdn:=flat_len (C:=dn) (fun c hc=>(hC.ne c (by simp[hc])).1)
  have hn:(dn.flatten++cu).length=dn.flatten.length+cu.length:=List.length_append
  have hi1:((dn.flatten++cu++[s]).length:Int)=i+1:=by rw[hi,List.length_append];simp
  have hs:=hk s (by rw[h1];simp)
  obtain⟨r,f1,_⟩:=fits_p cu s (by omega) (fun x hx=>by
   have:x∈l:=by rw[h1];rcases List.mem_append.1 hx with hx | hx;simp[hx];simp at hx;subst hx;simp
   exact⟨(hk x this).v,(hk x this).f⟩) hs.t
  have hi2:i<1000:=by omega
  rw[Z2h.l0,if_pos (decide_eq_true (by omega)),Z0a h1 hi,sb,chkB (by omega),f1,sb,Zc (n:=i+1) (by omega) (by omega)]
  cases r with
  | false =>
   rw[if_pos (show(!false)=true from rfl)]
   obtain⟨C,e1,e2,e3,e4⟩:=ih (dn++[cu]) [s] (i+1) (by rw[h1];simp) (by rw[← hi1];simp) (hC.snoc f1)
   refine⟨C,e1,e2,e3,fun h => ?_⟩
   have:=h [] s suf rfl
   rw[List.append_nil,f1] at this;simp at this
  | true =>
   have hcu:=hC.ne cu (by simp)
   obtain⟨x,R,hx⟩:∃ x R,cu=x::R:=by cases cu with | nil=>exact absurd rfl hcu.1 | cons x R=>exact⟨x,R,rfl⟩
   rw[if_neg (show ¬ ((!true)=true) by simp),chkB (by omega)]
   obtain⟨C,e1,e2,e3,e4⟩:=ih dn (cu++[s]) (i+1) (by rw[h1];simp) (by rw[← hi1];simp) (hC.last hx ⟨R++[s],by rw[hx];rfl⟩ (hcu.2.snoc f1))
   refine⟨C,e1,e2,e3,fun h => ?_⟩
   rw[e4 (fun p y q e=>by have:=h (s::p) y q (by rw[e];rfl);simpa using this)]
   simp
theorem cut_ok (l:List Za) (hl:l.length≤900) (hk:∀ s∈l,SOk s):∃ C,Z2h.f l=some C∧C.flatten=l∧CutOK C∧(l≠[]→Z88 l→C=[l]):=by
 unfold Z2h.f
 cases l with
 | nil=>exact⟨[],rfl,rfl,⟨by simp,by simp⟩,by simp⟩
 | cons s suf =>
  rw[if_pos (by simp),show at? (s::suf) 0=some s from rfl,sb,Zc (by omega) (by omega)]
  obtain⟨C,e1,e2,e3,e4⟩:=cut_l0 (s::suf) hl hk suf [] [s] (0+1) (by simp) (by simp) ⟨by simp;exact Z88.one s,by intro i c c' h1 h2;cases i<;>simp at h2⟩
  refine⟨C,e1,e2,e3,fun _ h => ?_⟩
  rw[e4 (fun p x q e=>h ([s]++p) x q (by rw[e];rfl))]
  rfl
end Go.Proofs.YtinhldbfifpakaaGreat.PvGL1
set_option linter.unusedVariables false
set_option linter.unusedSimpArgs false
set_option maxRecDepth 100000
namespace Go.Proofs.YtinhldbfifpakaaGreat.PvGL1
open Go Go.Pv Go.Pv.GS Go.IntKind
theorem awake15:Z2v.f=some true:=by cbv
def Z89 (t:Int):Bool:=decide (0≤t∧t≤1099511627776)
open Classical in
noncomputable def sok (s:Za):Bool:=Z89 s.f0&&decide (Z3k s.f1)
def aft (p:Option Za) (s:Za):Bool:=match p with
 | none=>true
 | some q=>decide (q.f0<s.f0)
noncomputable def good (p:Option Za) (s:Za):Bool:=sok s&&aft p s
noncomputable def rise:Option Za→List Za→Bool
 | _,[]=>true
 | p,s::l=>good p s&&rise (some s) l
def lst:Option Za→List Za→Option Za
 | p,[]=>p
 | _,s::l=>lst (some s) l
theorem lst_app (a b:List Za):∀ p,lst p (a++b)=lst (lst p a) b:=by
 induction a with
 | nil=>intro p;rfl
 | cons s a ih=>intro p;exact ih _
theorem lst_snoc (a:List Za) (s:Za) (p:Option Za):lst p (a++[s])=some s:=by rw[lst_app];rfl
def flow (b:Bool):Bool ⊕ Unit:=match b with
 | true =>.inr ()
 | false =>.inl false
theorem ris_step (s:Za) (hf:Fits s.f1) {l pre suf:List Za} {i:Int} (h1:l=pre++s::suf) (hi:i=(pre.length:Int)) (hl:l.length<1000000000000000) :
  ((if(decide (s.f0<(0:Int)))=true then(some true) else(if(decide (s.f0>(1099511627776:Int)))=true then(some true) else((Z0f.f s.f1)>>=fun t508=>if(t508 != (0:Int))=true then(some true) else(if(decide (i>(0:Int)))=true then((at? l (i64.wrap (i-(1:Int))))>>=fun b512=>some (decide (b512.f0≥s.f0))) else(some false))))):Option (Bool))=some (!good (lst none pre) s):=by
 have hlen:l.length=pre.length+(suf.length+1):=by rw[h1];simp
 by_cases t0:s.f0<0
 ·rw[if_pos (decide_eq_true t0)]
  have:Z89 s.f0=false:=decide_eq_false (by omega)
  simp[good,sok,this]
 rw[if_neg (by simpa using t0)]
 by_cases t1:s.f0>1099511627776
 ·rw[if_pos (decide_eq_true t1)]
  have:Z89 s.f0=false:=decide_eq_false (by omega)
  simp[good,sok,this]
 rw[if_neg (by simpa using t1)]
 have ht:Z89 s.f0=true:=decide_eq_true (by omega)
 obtain⟨e,e1,e3⟩:=check_any s.f1 hf
 rw[e1,sb]
 by_cases he:e=0
 case neg =>
  rw[if_pos (by simpa using he)]
  have:¬ Z3k s.f1:=fun h=>he (e3.2 h)
  simp[good,sok,this]
 rw[if_neg (by simpa using he)]
 have hv:=e3.1 he
 rcases List.eq_nil_or_concat pre with rfl | ⟨Q,q,rfl⟩
 ·rw[if_neg (by simp[hi])]
  simp[good,sok,ht,hv,lst,aft]
 ·rw[List.concat_eq_append] at *
  have hi3:i=(Q.length:Int)+1:=by rw[hi];simp
  simp only[List.length_append,List.length_singleton] at hlen
  rw[if_pos (decide_eq_true (by omega)),Zc (n:=i-1) (by omega) (by omega)]
  rw[show at? l (i-1)=some q from Z0a (pre:=Q) (suf:=s::suf) (by rw[h1];simp) (by omega),sb,lst_snoc]
  simp only[good,sok,ht,hv,aft,Bool.true_and,decide_true]
  congr 1
  by_cases c:q.f0<s.f0
  ·rw[decide_eq_false (by omega),decide_eq_true c];rfl
  ·rw[decide_eq_true (by omega),decide_eq_false c];rfl
theorem ris_l0 (l:List Za) (hl:l.length<1000000000000000) (hf:∀ s∈l,Fits s.f1):∀ (suf pre:List Za) (i:Int),l=pre++suf→i=(pre.length:Int)→Z1n.l0 l i=some (flow (rise (lst none pre) suf)):=by
 intro suf
 induction suf with
 | nil=>intro pre i h1 hi;rw[Z1n.l0,if_neg (by rw[h1];simp[hi])];rfl
 | cons s suf ih =>
  intro pre i h1 hi
  have hlen:l.length=pre.length+(suf.length+1):=by rw[h1];simp
  have hst:=ris_step s (hf s (by rw[h1];simp)) h1 hi hl
  have hr:rise (lst none pre) (s::suf)=(good (lst none pre) s&&rise (some s) suf):=rfl
  rw[hr]
  cases g:good (lst none pre) s with
  | false =>
   rw[g] at hst
   rw[Z1n.l0,if_pos (by simp;omega),Z0a h1 hi,sb,hst,sb,if_pos (show(!false)=true from rfl)]
   rfl
  | true =>
   rw[g] at hst
   rw[Z1n.l0,if_pos (by simp;omega),Z0a h1 hi,sb,hst,sb,if_neg (show ¬ (!true)=true by simp),Zc (n:=i+1) (by omega) (by omega),ih (pre++[s]) (i+1) (by simp[h1]) (by simp;omega),lst_snoc,Bool.true_and]
theorem ris_eq (l:List Za) (hl:l.length<1000000000000000) (hf:∀ s∈l,Fits s.f1):Z1n.f l=some (rise none l):=by
 unfold Z1n.f
 rw[ris_l0 l hl hf l [] 0 rfl rfl,sb]
 show(match flow (rise none l) with | .inl rr=>(some rr) | .inr _=>(some true))=some (rise none l)
 obtain⟨b,hb⟩:∃ b,rise none l=b:=⟨_,rfl⟩
 rw[hb];cases b<;>rfl
theorem rtime (t:Int):Z4c.f t=some (Z89 t):=by
 unfold Z4c.f Z89
 by_cases h:t≥0
 ·rw[if_pos (decide_eq_true h),sb];congr 1;apply Bool.eq_iff_iff.2;simp;omega
 ·rw[if_neg (by simpa using h),sb];congr 1;rw[decide_eq_false (by omega)]
end Go.Proofs.YtinhldbfifpakaaGreat.PvGL1
set_option linter.unusedVariables false
set_option linter.unusedSimpArgs false
set_option maxRecDepth 10000
namespace Go.Proofs.YtinhldbfifpakaaGreat.PvGL1
open Go Go.Pv Go.Pv.GS Go.IntKind
theorem sok_of {s:Za} (h:SOk s):sok s=true:=by
 unfold sok Z89
 simp[h.t,h.v]
theorem sok_inv {s:Za} (hf:Fits s.f1) (h:sok s=true):SOk s:=by
 unfold sok Z89 at h
 simp only[Bool.and_eq_true,decide_eq_true_eq] at h
 exact⟨h.2,hf,h.1⟩
theorem SOk.cok {s:Za} (h:SOk s):COk [s]:=fit_nil s h.v h.t
theorem SOk.hok {s:Za} (h:SOk s):HOk s.f1:=⟨h.f,h.v.pos.len,h.v.neg.len⟩
def encX (l:List Za):List Int:=((Zz.f l).getD ([],0)).1
theorem encX_eq {l:List Za} (hc:COk l) (hne:l≠[]) (hk:∀ s∈l,HOk s.f1) (h0:Z1h.f l=some 0):Zz.f l=some (encX l,0)∧(∃ f,Laid (encX l) f (Z6d l))∧(encX l).length≤400000:=by
 obtain⟨x,f,e,h⟩:=enc_eq hc hne (fun s hs=>(hk s hs).fits) h0
 have hx:encX l=x:=by unfold encX;rw[e];rfl
 rw[hx]
 exact⟨e,⟨f,h⟩,(laid_src h hc hk).2⟩
def smpB (s:Za):List Bool:=cnt2 1++Z5n (Z6k (encX [s]))
theorem Z7h {x:List Int} {f:Nat} {s:List Bool} (h:Laid x f s):∀ n∈x,0≤n∧n<256:=fun n hn=>h.byte n hn
theorem Z9z {s:Za} (h:SOk s):Z2h.f [s]=some [[s]]∧Zz.f [s]=some (encX [s],0)∧(∃ f,Laid (encX [s]) f (Z6d [s]))∧(encX [s]).length≤400000∧Z1h.f [s]=some 0:=by
 have hk:∀ x∈[s],SOk x:=by intro x hx;simp at hx;subst hx;exact h
 obtain⟨C,c1,_,_,c4⟩:=cut_ok [s] (by simp) hk
 have:=c4 (by simp) (Z88.one s)
 subst this
 have h0:Z1h.f [s]=some 0:=by rw[grow_chk [s] (by simp) (by simp) hk,if_pos (Z88.one s)]
 obtain⟨e1,e2,e3⟩:=encX_eq h.cok (by simp) (by intro x hx;simp at hx;subst hx;exact h.hok) h0
 exact⟨c1,e1,e2,e3,h0⟩
theorem samples1 {b:List Int} {f:Nat} {st:List Bool} (h:Laid b f st) {s:Za} (hs:SOk s) (hl:st.length<600000000) :
  ∃ (b':List Int) (f':Nat),Z18.f b (f:Int) [s]=some (b',(f':Int))∧Laid b' f' (st++smpB s):=by
 obtain⟨c1,c2,⟨g,hL⟩,c3,_⟩:=Z9z hs
 unfold Z18.f
 rw[c1,sb]
 obtain⟨b1,f1,e1,h1⟩:=Z67 h (by omega) (n:=1) (by omega) (by omega)
 rw[show((([[s]]:List (List Za)).length:Nat):Int)=1 from rfl,Z3f (by omega) (by omega),e1,sb]
 have hsz:(Z6k (encX [s])).size=(encX [s]).length:=by rw[← Z52,Z6f (Z7h hL)]
 have:=Z14 1
 obtain⟨b2,f2,e2,h2⟩:=text_eq h1 (Z6k (encX [s])) (by omega) (by rw[List.length_append,show((1:Int).toNat)=1 from rfl];omega)
 rw[Z18.l0,if_pos (by simp),show at? [[s]] (0:Int)=some [s] from rfl,sb,c2,sb,e2,sb,Zc (n:=0+1) (by omega) (by omega),Z18.l0,if_neg (by simp),sb]
 exact⟨b2,f2,rfl,by rw[smpB,← List.append_assoc];exact h2⟩
variable {b:List Int}
theorem err_ok (a e:Int):Zq.f b a e=some ():=rfl
theorem smp_src {x:List Int} {f:Nat} {l:List Za} (h:Laid x f (Z6d l)) (hl:x.length≤400000):Src x:=⟨h.byte,by omega⟩
theorem sampled_fwd (hb:Src b) {s:Za} (hs:SOk s) {a:Nat} {z:List Bool} (ha:a≤8*b.length) (h:(Z06 b).drop a=smpB s++z) :
  Z19.f b (a:Int) 0=some ([s],true,((a+(smpB s).length:Nat):Int),0):=by
 obtain⟨c1,c2,⟨g,hL⟩,c3,c4⟩:=Z9z hs
 have h1:(Z06 b).drop a=cnt2 1++(Z5n (Z6k (encX [s]))++z):=by rw[h,smpB,List.append_assoc]
 have h2:(Z06 b).drop (a+(cnt2 1).length)=Z5n (Z6k (encX [s]))++z:=by rw[← List.drop_drop,h1,List.drop_left' rfl]
 have hlen:=congrArg List.length h1
 simp only[List.length_drop,Z0u,List.length_append] at hlen
 have hsz:(Z6k (encX [s])).size=(encX [s]).length:=by rw[← Z52,Z6f (Z7h hL)]
 have hB:=hb.len
 have hsrc:=smp_src hL c3
 have hk:∀ x∈[s],HOk x.f1:=by intro x hx;simp at hx;subst hx;exact hs.hok
 have hd:=(dec_fwd hsrc hs.cok (by simp) hk c4 (List.replicate g false) hL.bits).2 g hL.lt rfl
 unfold Z19.f
 rw[show(65536:Int)=((65536:Nat):Int) from rfl,Z46 hb (n:=1) (by omega) (by omega) ha h1,sb]
 dsimp only
 rw[Z19.l0,if_pos (by simp),err_ok,sb,sb,if_pos (by simp),Zc3 hb (by omega) (by omega) h2,sb]
 dsimp only
 rw[Z6f (Z7h hL),hd,sb,if_neg (by simp),chkB (by simp),List.nil_append,Zc (n:=0+1) (by omega) (by omega),Z19.l0,if_neg (by simp),sb,if_neg (by simp),sb]
 dsimp only
 rw[ris_eq [s] (by simp) (by intro x hx;simp at hx;subst hx;exact hs.f),sb]
 have:rise none [s]=true:=by simp[rise,good,aft,sok_of hs]
 rw[this]
 congr 5
 rw[smpB,List.length_append];omega
end Go.Proofs.YtinhldbfifpakaaGreat.PvGL1
set_option linter.unusedVariables false
set_option linter.unusedSimpArgs false
set_option maxRecDepth 10000
namespace Go.Proofs.YtinhldbfifpakaaGreat.PvGL1
open Go Go.Pv Go.Pv.GS Go.IntKind
structure Chu (c:List Za):Prop where
 cok:COk c
 ne:c≠[]
 k:∀ s∈c,HOk s.f1
 h0:Z1h.f c=some 0
variable {b:List Int}
end Go.Proofs.YtinhldbfifpakaaGreat.PvGL1
