import Derived.Test.YtbmdealiikoplaaGreatPxEvalDoes15
set_option linter.unusedVariables false
set_option linter.unusedSimpArgs false
set_option maxRecDepth 10000
namespace Go.Proofs.YtbmdealiikoplaaGreat.PvGJ
open Go Go.Pv Go.Pv.GS
theorem rwin_l0 (l:List TSample) (a b:Int) (hl:l.length<1000000):∀ (suf pre o:List TSample) (i:Int),l=pre++suf→i=(pre.length:Int)→o.length≤pre.length →
  f_r19_Window.l0 l a b o i=some (o++suf.filter (inWin a b)):=by
 intro suf
 induction suf with
 | nil=>intro pre o i h1 hi ho;rw[List.append_nil] at h1;subst h1;rw[f_r19_Window.l0,if_neg (by simp[hi])];simp
 | cons s suf ih =>
  intro pre o i h1 hi ho
  have hlen:l.length=pre.length+(suf.length+1):=by rw[h1];simp
  have hb:(((at? l i)>>=fun b2448=>if(decide (b2448.f0>a))=true then(some (decide (b2448.f0≤b))) else(some false)):Option (Bool))=some (inWin a b s):=by
   rw[at_mid h1 hi,sb]
   unfold inWin
   by_cases c:a<s.f0
   ·rw[if_pos (by simpa using c)];simp[c]
   ·rw[if_neg (by simpa using c)];simp[c]
  rw[f_r19_Window.l0,if_pos (by simp;omega),hb,sb,at_mid h1 hi,sb,wrap64 (n:=i+1) (by omega) (by omega)]
  by_cases c:inWin a b s=true
  ·rw[if_pos c,chkB (by simp;omega),sb,ih (pre++[s]) _ (i+1) (by simp[h1]) (by simp;omega) (by simp;omega),List.filter_cons,if_pos c]
   simp
  ·rw[if_neg c,sb,ih (pre++[s]) _ (i+1) (by simp[h1]) (by simp;omega) (by simp;omega),List.filter_cons,if_neg c]
theorem rwin_eq (l:List TSample) (a b:Int) (hl:l.length<1000000):f_r19_Window.f l a b=some (l.filter (inWin a b)):=by
 unfold f_r19_Window.f
 rw[rwin_l0 l a b hl l [] [] 0 rfl rfl (Nat.le_refl _),sb,List.nil_append]
theorem same9_l0 (l:List TSample) (hl:l.length<1000000) (hv:∀ s∈l,Small s.f1):∀ (suf pre:List TSample) (i:Int),l=pre++suf→i=(pre.length:Int)→f_l09_Same.l0 l l i=some (.inr ()):=by
 intro suf
 induction suf with
 | nil=>intro pre i h1 hi;rw[List.append_nil] at h1;subst h1;rw[f_l09_Same.l0,if_neg (by simp[hi])]
 | cons s suf ih =>
  intro pre i h1 hi
  have hlen:l.length=pre.length+(suf.length+1):=by rw[h1];simp
  have hs:=hv s (by rw[h1];simp)
  have h6:=hs.1
  have h7:=hs.2
  rw[f_l09_Same.l0,if_pos (by simp;omega),at_mid h1 hi,sb,sb,if_neg (by simp),rSame_self s.f1 (by omega) (by omega),sb,sb,if_neg (by simp),wrap64 (by omega) (by omega)]
  exact ih (pre++[s]) (i+1) (by simp[h1]) (by simp;omega)
theorem same9_self (l:List TSample) (hl:l.length<1000000) (hv:∀ s∈l,Small s.f1):f_l09_Same.f l l=some true:=by
 unfold f_l09_Same.f
 rw[if_neg (by simp),same9_l0 l hl hv l [] 0 rfl rfl,sb]
abbrev toQ (a:Tr19_Ask):Teval_Ask:=⟨a.f0,a.f1,a.f2,⟨a.f3,a.f4⟩,a.f5,a.f6⟩
theorem rof_l0 (l:List TSample) (hl:l.length≤400):∀ (suf pre:List TSample) (o:List THist) (i:Int),l=pre++suf→i=(pre.length:Int)→o.length=pre.length→f_r19_Of.l0 l o i=some (o++suf.map (·.f1)):=by
 intro suf
 induction suf with
 | nil=>intro pre o i h1 hi ho;rw[List.append_nil] at h1;subst h1;rw[f_r19_Of.l0,if_neg (by simp[hi])];simp
 | cons s suf ih =>
  intro pre o i h1 hi ho
  have hlen:l.length=pre.length+(suf.length+1):=by rw[h1];simp
  rw[f_r19_Of.l0,if_pos (by simp;omega),at_mid h1 hi,sb,chkB (by simp;omega),wrap64 (by omega) (by omega)]
  rw[ih (pre++[s]) (o++[s.f1]) (i+1) (by simp[h1]) (by simp;omega) (by simp[ho])]
  simp
theorem of_same (a:Tr19_Ask) (l:List TSample) (h:Lit l):∃ x e,f_eval_Of.f (toQ a) l=some (x,e)∧f_r19_Of.f a l=some (x,e)∧Small x∧(e=0→Valid x∧Fits x):=by
 have hw:=h.filter (inWin a.f5 a.f6)
 have hlen:=h.len
 have hwl:=hw.len
 obtain⟨x0,e0,E0,hx0⟩:=of_tot (toQ a) l h
 by_cases h5:a.f0=5
 ·have hall:∀ x∈(l.filter (inWin a.f5 a.f6)).map (·.f1),Valid x∧Fits x:=fun x hx=>by
   obtain⟨s,hs,rfl⟩:=List.mem_map.1 hx
   exact hw.ok s hs
  obtain⟨r,e,e1,e2,hr⟩:=rise_same ((l.filter (inWin a.f5 a.f6)).map (·.f1)) (by simp only[List.length_map];omega) hall
  have h1:=of_rise (toQ a) l h h5
  have e1':f_eval_Of.f (toQ a) l=some (r,e):=h1.trans e1
  rw[e1'] at E0
  obtain⟨rfl,rfl⟩:=Prod.mk.inj (Option.some.inj E0)
  refine⟨r,e,e1',?_,?_,hx0⟩
  ·unfold f_r19_Of.f
   rw[rwin_eq l _ _ (by omega),sb,if_pos (by simpa using h5),rof_l0 _ hwl _ [] [] 0 rfl rfl rfl,sb,List.nil_append,e2,sb]
  ·rcases hr with rfl | hr
   ·simp[Small,h0]
   ·have:=hr.pos.len;have:=hr.neg.len;simp only[Small];omega
 ·rcases List.eq_nil_or_concat (l.filter (inWin a.f5 a.f6)) with hn | ⟨P,p,hn⟩
  ·refine⟨⟨0,0,0,0,0,0,[],[]⟩,30,?_,?_,by simp[Small],by simp⟩
   ·unfold f_eval_Of.f
    rw[win_eq l (by omega),sb,if_neg (by simpa using h5)]
    dsimp only
    rw[hn,if_pos (by simp)]
   ·unfold f_r19_Of.f
    rw[rwin_eq l _ _ (by omega),sb,if_neg (by simpa using h5),hn,if_pos (by simp)]
  ·simp only[List.concat_eq_append] at hn
   rw[hn] at hw hwl
   have hp:=hw.ok p (by simp)
   have h6:=hp.1.pos.len
   have h7:=hp.1.neg.len
   simp only[List.length_append,List.length_cons,List.length_nil] at hwl
   refine⟨p.f1,0,?_,?_,by simp only[Small];omega,fun _=>hp⟩
   ·unfold f_eval_Of.f
    rw[win_eq l (by omega),sb,if_neg (by simpa using h5)]
    dsimp only
    rw[hn,if_neg (by simp<;>omega),wrap64 (by simp<;>omega) (by simp<;>omega),at_mid (pre:=P) (x:=p) (suf:=[]) (by simp) (by simp),sb,clone_eq p.f1 (by omega) (by omega),sb]
   ·unfold f_r19_Of.f
    rw[rwin_eq l _ _ (by omega),sb,if_neg (by simpa using h5),hn,if_neg (by simp<;>omega),wrap64 (by simp<;>omega) (by simp<;>omega),at_mid (pre:=P) (x:=p) (suf:=[]) (by simp) (by simp),sb]
abbrev ra (x:Teval_Answer):Tr19_Answer:=⟨x.f0,x.f1,x.f2,⟨x.f3.f0,x.f3.f1,x.f3.f2,0⟩,⟨x.f4.f0,x.f4.f1,x.f4.f2⟩⟩
theorem is_ra (x:Teval_Answer) (h:Small x.f0):f_l19_Is.f x (ra x)=some true:=by
 unfold f_l19_Is.f
 rw[rSame_self x.f0 (by have:=h.1;omega) (by have:=h.2;omega)]
 simp[sb]
theorem finish_same (a:Tr19_Ask) {h:THist} (v:Valid h) (f:Fits h) (hp:U64 a.f1) (ho:U64 a.f2) :
  ∃ x e,f_eval_Finish.f (toQ a) h=some (x,e)∧f_r19_Finish.f a h=some (ra x,e)∧Small x.f0:=by
 have h6:=v.pos.len
 have h7:=v.neg.len
 have hsm:Small h:=by simp only[Small];omega
 have P:∀ x e,f_eval_Finish.f (toQ a) h=some (x,e)→f_r19_Finish.f a h=some (ra x,e)→Small x.f0→∃ x e,f_eval_Finish.f (toQ a) h=some (x,e)∧f_r19_Finish.f a h=some (ra x,e)∧Small x.f0 :=
  fun x e h1 h2 h3=>⟨x,e,h1,h2,h3⟩
 have z0:Small ans0.f0:=by simp[Small]
 by_cases h0:a.f0=0∨a.f0=5
 ·have hb:((if(a.f0==(0:Int))=true then(some (a.f0==(0:Int))) else(some (a.f0==(5:Int)))):Option Bool)=some true:=by
   rcases h0 with c | c<;>simp[c]
  refine P ⟨h,0,0,⟨0,0,0⟩,⟨0,0,0⟩⟩ 0 ?_ ?_ hsm
  ·unfold f_eval_Finish.f
   dsimp only
   rw[hb,sb,if_pos rfl,clone_eq h (by omega) (by omega),sb,sb]
   dsimp only
   rw[if_neg (by simp)]
  ·unfold f_r19_Finish.f
   rw[hb,sb,if_pos rfl]
 have hb:((if(a.f0==(0:Int))=true then(some (a.f0==(0:Int))) else(some (a.f0==(5:Int)))):Option Bool)=some false:=by
  have c1:¬ a.f0=0:=fun c=>h0 (.inl c)
  have c2:¬ a.f0=5:=fun c=>h0 (.inr c)
  simp[c1,c2]
 by_cases h1:a.f0=1
 ·refine P ⟨⟨0,0,0,0,0,0,[],[]⟩,h.f5,0,⟨0,0,0⟩,⟨0,0,0⟩⟩ 0 ?_ ?_ (by simp[Small])
  ·unfold f_eval_Finish.f
   dsimp only
   rw[hb,sb,if_neg (by simp),if_pos (by simpa using h1),sb]
   dsimp only
   rw[sb]
   dsimp only
   rw[if_neg (by simp)]
  ·unfold f_r19_Finish.f
   rw[hb,sb,if_neg (by simp),if_pos (by simpa using h1)]
 by_cases h2:a.f0=2
 ·refine P ⟨⟨0,0,0,0,0,0,[],[]⟩,0,h.f4,⟨0,0,0⟩,⟨0,0,0⟩⟩ 0 ?_ ?_ (by simp[Small])
  ·unfold f_eval_Finish.f
   dsimp only
   rw[hb,sb,if_neg (by simp),if_neg (by simpa using h1),if_pos (by simpa using h2),sb]
   dsimp only
   rw[sb]
   dsimp only
   rw[sb]
   dsimp only
   rw[if_neg (by simp)]
  ·unfold f_r19_Finish.f
   rw[hb,sb,if_neg (by simp),if_neg (by simpa using h1),if_pos (by simpa using h2)]
 by_cases h3:a.f0=3
 ·obtain⟨k,n,e,e1,e2⟩:=quant_same v f hp ho
  have A:f_eval_Finish.f (toQ a) h=some (if e=0 then⟨⟨0,0,0,0,0,0,[],[]⟩,0,0,⟨k.f0,k.f1,k.f2⟩,⟨0,0,0⟩⟩ else ans0,e):=by
   unfold f_eval_Finish.f
   dsimp only
   rw[hb,sb,if_neg (by simp),if_neg (by simpa using h1),if_neg (by simpa using h2),if_pos (by simpa using h3),e1,sb,sb]
   dsimp only
   rw[sb]
   dsimp only
   rw[sb]
   dsimp only
   rw[sb]
   dsimp only
   by_cases he:e=0
   ·subst he;rw[if_neg (by simp),if_pos rfl]
   ·rw[if_pos (by simpa using he),if_neg he]
  have B:f_r19_Finish.f a h=some (ra (if e=0 then⟨⟨0,0,0,0,0,0,[],[]⟩,0,0,⟨k.f0,k.f1,k.f2⟩,⟨0,0,0⟩⟩ else ans0),e):=by
   unfold f_r19_Finish.f
   rw[hb,sb,if_neg (by simp),if_neg (by simpa using h1),if_neg (by simpa using h2),if_pos (by simpa using h3),e2,sb]
   dsimp only
   by_cases he:e=0
   ·subst he;rw[if_neg (by simp),if_pos rfl]
   ·rw[if_pos (by simpa using he),if_neg he]
  exact P _ _ A B (by split<;>simp[Small])
 by_cases h4:a.f0=4
 ·have e1:=below_eq v f (⟨a.f3,a.f4⟩:Trank_Place)
  have e2:=ref_below_eq v f (⟨a.f3,a.f4⟩:Trank_Place)
  dsimp only at e2
  obtain⟨p1,p2,p3,e,q1,q2⟩:∃ p1 p2 p3 e:Int,f_rank_Below.f h (⟨a.f3,a.f4⟩:Trank_Place)=some (⟨p1,p2,p3⟩,e)∧f_r08_Below.f h a.f3 a.f4=some (p1,p2,p3,e):=by
   rw[e1,e2]
   by_cases g1:¬ PlaceOk (⟨a.f3,a.f4⟩:Trank_Place)
   ·exact⟨0,0,0,1,by rw[if_pos g1];rfl,by rw[if_pos g1]⟩
   by_cases g2:h.f4=0
   ·exact⟨0,0,0,30,by rw[if_neg g1,if_pos g2];rfl,by rw[if_neg g1,if_pos g2]⟩
   ·exact⟨_,_,_,0,by rw[if_neg g1,if_neg g2],by rw[if_neg g1,if_neg g2]⟩
  have A:f_eval_Finish.f (toQ a) h=some (if e=0 then⟨⟨0,0,0,0,0,0,[],[]⟩,0,0,⟨0,0,0⟩,⟨p1,p2,p3⟩⟩ else ans0,e):=by
   unfold f_eval_Finish.f
   dsimp only
   rw[hb,sb,if_neg (by simp),if_neg (by simpa using h1),if_neg (by simpa using h2),if_neg (by simpa using h3),if_pos (by simpa using h4),q1,sb,sb]
   dsimp only
   rw[sb]
   dsimp only
   rw[sb]
   dsimp only
   rw[sb]
   dsimp only
   rw[sb]
   dsimp only
   by_cases he:e=0
   ·subst he;rw[if_neg (by simp),if_pos rfl]
   ·rw[if_pos (by simpa using he),if_neg he]
  have B:f_r19_Finish.f a h=some (ra (if e=0 then⟨⟨0,0,0,0,0,0,[],[]⟩,0,0,⟨0,0,0⟩,⟨p1,p2,p3⟩⟩ else ans0),e):=by
   unfold f_r19_Finish.f
   rw[hb,sb,if_neg (by simp),if_neg (by simpa using h1),if_neg (by simpa using h2),if_neg (by simpa using h3),if_pos (by simpa using h4),q2,sb]
   dsimp only
   by_cases he:e=0
   ·subst he;rw[if_neg (by simp),if_pos rfl]
   ·rw[if_pos (by simpa using he),if_neg he]
  exact P _ _ A B (by split<;>simp[Small])
 ·refine P ans0 1 ?_ ?_ z0
  ·unfold f_eval_Finish.f
   dsimp only
   rw[hb,sb,if_neg (by simp),if_neg (by simpa using h1),if_neg (by simpa using h2),if_neg (by simpa using h3),if_neg (by simpa using h4),sb]
   dsimp only
   rw[sb]
   dsimp only
   rw[sb]
   dsimp only
   rw[sb]
   dsimp only
   rw[sb]
   dsimp only
   rw[if_pos (by simp)]
  ·unfold f_r19_Finish.f
   rw[hb,sb,if_neg (by simp),if_neg (by simpa using h1),if_neg (by simpa using h2),if_neg (by simpa using h3),if_neg (by simpa using h4)]
theorem do_same (a:Tr19_Ask) (l:List TSample) (h:Lit l) (hp:U64 a.f1) (ho:U64 a.f2) :
  ∃ x e,f_eval_Do.f (toQ a) l=some (x,e)∧f_r19_Do.f a l=some (ra x,e)∧Small x.f0:=by
 unfold f_eval_Do.f f_r19_Do.f
 have hb:((if(decide (a.f0<(0:Int)))=true then(some true) else(some (decide (a.f0>(5:Int))))):Option (Bool))=some (decide (a.f0<0)||decide (a.f0>5)):=by
  by_cases c:a.f0<0<;>simp[c]
 dsimp only
 rw[hb,sb,sb]
 by_cases hk:(decide (a.f0<0)||decide (a.f0>5))=true
 ·rw[if_pos hk,if_pos hk];exact⟨_,_,rfl,rfl,by simp[Small]⟩
 rw[if_neg hk,if_neg hk]
 obtain⟨x,e,E1,E2,hs,hx⟩:=of_same a l h
 rw[show f_eval_Of.f _ l=_ from E1,E2,sb,sb]
 dsimp only
 by_cases he:e=0
 ·obtain⟨v,f⟩:=hx he
  rw[if_neg (by simpa using he),if_neg (by simpa using he)]
  obtain⟨y,g,G1,G2,hy⟩:=finish_same a v f hp ho
  rw[show f_eval_Finish.f _ x=_ from G1,G2,sb,sb]
  exact⟨_,_,rfl,rfl,hy⟩
 ·rw[if_pos (by simpa using he),if_pos (by simpa using he)];exact⟨_,_,rfl,rfl,by simp[Small]⟩
theorem evalDoes_R (a:Tr19_Ask) (l:List TSample) (ha:Rr19_Ask a) (hL:l.length≤140737488351232∧∀ s∈l,RSample s):f_l19_EvalDoes.f a l=some true:=by
 obtain⟨hl0,hR⟩:=hL
 have hl:(l.length:Int)≤140737488351232:=by omega
 unfold f_l19_EvalDoes.f
 obtain⟨g,eg,hg⟩:=light_list l hl hR
 rw[eg,sb]
 cases g with
 | false=>rw[if_pos (show(!false)=true from rfl),awake19,sb]
 | true =>
  obtain⟨hu,h400⟩:=hg rfl
  have lit:Lit l:=⟨fun s hs=>⟨(hu.ok s hs).1,fits_of (hR s hs).r1⟩,h400⟩
  have hw:=lit.filter (inWin a.f5 a.f6)
  rw[if_neg (by simp),win_eq l (by omega),sb,rwin_eq l _ _ (by omega),sb,same9_self _ (by have:=hw.len;omega) (fun s hs=>by
   have:=(hw.ok s hs).1.pos.len;have:=(hw.ok s hs).1.neg.len;simp only[Small];omega),sb,if_neg (by simp),show f_l19_To.f a=some (toQ a) from rfl,sb]
  obtain⟨x,e,E1,E2,hs,hx⟩:=of_same a l lit
  obtain⟨y,g,D1,D2,hy⟩:=do_same a l lit ha.r1 ha.r2
  dsimp only
  rw[show f_eval_Of.f _ l=_ from E1,E2,sb,sb]
  dsimp only
  rw[if_neg (by simp),rSame_self x (by have:=hs.1;omega) (by have:=hs.2;omega),sb,sb,if_neg (by simp)]
  have tail:∀ z:Option (Bool ⊕ Unit),z=some (.inr ())→∀ k:Option Bool,k=some true→(z>>=fun oo=>match oo with | .inl rr=>(some rr) | .inr _=>k)=some true:=by
   intro z hz k hk;subst hz;exact hk
  refine tail _ ?_ _ ?_
  ·by_cases he:e=0
   ·obtain⟨v,f⟩:=hx he
    obtain⟨u,i,F1,F2,hu'⟩:=finish_same a v f ha.r1 ha.r2
    rw[if_pos (by simpa using he),sb,show f_eval_Finish.f _ x=_ from F1,F2,sb,sb]
    dsimp only
    rw[if_neg (by simp),show f_l19_Is.f _ _=_ from is_ra u hu',sb,sb,if_neg (by simp)]
   ·rw[if_neg (by simpa using he)]
  ·rw[sb,show f_eval_Do.f _ l=_ from D1,D2,sb,sb,awake19]
   dsimp only
   rw[sb,if_pos rfl,if_pos (by simp),show f_l19_Is.f _ _=_ from is_ra y hy,sb,if_pos rfl,show f_eval_Same.f _ _=_ from esame_self y hy]
   simp[sb]
end Go.Proofs.YtbmdealiikoplaaGreat.PvGJ
