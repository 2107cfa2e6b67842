import Derived.Test.YtpoihfcehejgfaaGreatPxBlockMakes05
set_option linter.unusedVariables false
set_option linter.unusedSimpArgs false
namespace Go.Pv
def takeS (s:Z6) (m j:Nat) (b:Bun) (es:List (Value×Im)):Z6 :=
 { slots:=s.slots,objs:=(m,some (.amap (es.map (·.1)) ((es.map fun p=>AVal.im p.2).set j b.h)))::(b.objs.map (fun p=>(p.1,some p.2))++s.objs),floor:=s.floor }
theorem obj_take (s:Z6) (m j:Nat) (b:Bun) (es:List (Value×Im)) (k:Nat):(takeS s m j b es).obj k=if m=k then some (.amap (es.map (·.1)) ((es.map fun p=>AVal.im p.2).set j b.h)) else match look b.objs k with
  | some o=>some o
  | none=>s.obj k:=by
 show(look ((m,some (.amap (es.map (·.1)) ((es.map fun p=>AVal.im p.2).set j b.h)))::(b.objs.map (fun p=>(p.1,some p.2))++s.objs)) k).getD none=_;rw[Z19];by_cases e:m=k
 ·rw[if_pos e,if_pos e];rfl
 ·rw[if_neg e,if_neg e,Z3p        ,look_some]
  cases look b.objs k<;>rfl
theorem Z5f {Bs:List (List Nat)} {i q:Nat} (h:q∈(Bs.set i []).flatten):q∈Bs.flatten:=by
 rcases Z9a h with h | h
 ·exact h
 ·cases h
theorem bag_take {Γ:Ctx} {s:Z6} {bs:List Bun} {Bs:List (List Nat)} (KB:List Nat) (m i j:Nat) (b:Bun) (es:List (Value×Im)) (key:Value) (hb:bs[i]? = some b) (hm:s.obj m=some (.map es)) (he:es[j]? = some (key,.sc b.v)) (hk:∀ k o,look b.objs k=some o→k∈KB) (hfr:∀ k∈KB,s.fresh k) (hob:∀ k o q,look b.objs k=some o→o.has q=true→q∈KB) (hh:∀ q,b.h.has q=true→q∈KB) :
  GCv Γ s (bag bs Bs) (takeS s m j b es) (bag (bs.set i ⟨b.v,.top,[]⟩) (Bs.set i [])):=by
 rintro a w ⟨κ,I,hr,hg⟩;obtain⟨hl,hnd,hat⟩:=hg.holds;obtain⟨hi,rfl⟩:=List.getElem?_eq_some_iff.1 hb;have hiB:i<Bs.length:=hl ▸ hi;obtain⟨κb,b1,b2,b3,b4⟩:=hat i hi hiB;have hin:∀ q,q∈Bs[i]→q∈(bag bs Bs).B:=fun q hq=>List.mem_flatten.2 ⟨_,List.getElem_mem hiB,hq⟩
 let κ2:Nat→Option KI:=fun k=>if k∈KB then κb k else κ k
 have k2in:∀ k,k∈KB→κ2 k=κb k:=fun k h=>if_pos h
 have k2out:∀ k,k ∉ KB→κ2 k=κ k:=fun k h=>if_neg h
 have hmain:∀ k o,s.obj k=some o→k ∉ KB:=fun k o e hin=>by rw[(hfr k hin).2.2.1] at e;cases e
 have hmK:=hmain m _ hm;have hob2:∀ k o,(takeS s m j bs[i] es).obj k=some o→(k=m∧o = .amap (es.map (·.1)) ((es.map fun p=>AVal.im p.2).set j bs[i].h))∨(look bs[i].objs k=some o∧k∈KB)∨(k ∉ KB∧k≠m∧s.obj k=some o):=fun k o e=>by
  rw[obj_take] at e;by_cases c:m=k
  ·rw[if_pos c] at e;exact .inl ⟨c.symm,(Option.some.inj e).symm⟩
  ·rw[if_neg c] at e
   cases e1:look bs[i].objs k with
   | some o'=>rw[e1] at e;obtain rfl:=Option.some.inj e;exact .inr (.inl ⟨rfl,hk k _ e1⟩)
   | none=>rw[e1] at e;exact .inr (.inr ⟨hmain k o e,fun h=>c h.symm,e⟩)
 have hbh:Rep w I κ2 bs[i].h bs[i].v:=b1.mono (fun _ h=>h) (fun _ _=>rfl) (fun q hq=>k2in q (hh q hq));have hmo:=hr.inv.objs m _ hm;obtain⟨kim,arr,eκm,m1,m2,m3⟩:=Zak hmo;have objs2:∀ k o,(takeS s m j bs[i] es).obj k=some o→OAt w I κ2 k o:=fun k o e=>by
  rcases hob2 k o e with ⟨rfl,rfl⟩ | ⟨e1,e2⟩ | ⟨e1,e3,e2⟩
  ·unfold OAt
   rw[k2out k hmK,eκm];refine⟨by simp,arr,by simpa using m1,by simpa using m2,fun q hq => ?_⟩;simp only[List.length_map] at hq;obtain⟨e,g1,g2,g3,g4⟩:=m3 q hq;refine⟨e,g1,g2,by rw[g3];simp,fun h' => ?_⟩;by_cases c:j=q
   ·subst c
    rw[List.getElem_set_self];have h1:=(List.getElem?_eq_some_iff.1 he).2;rw[h1] at g4;have:e.val=bs[i].v:=by
     generalize bs[i].v=v at g4;cases g4;rfl
    rw[this];exact hbh
   ·rw[List.getElem_set_ne c,List.getElem_map]
    exact .im g4
  ·have h0:=b2 k o e1
   unfold OAt at h0 ⊢;rw[k2in k e2];cases e3:κb k with
   | none=>rw[e3] at h0;exact h0
   | some ki=>rw[e3] at h0;exact h0.mono (fun _ h=>h) (fun _ _=>rfl) rfl (fun q hq=>k2in q (hob k o q e1 hq))
  ·have h0:=hr.inv.objs k o e2
   unfold OAt at h0 ⊢;rw[k2out k e1];cases e3:κ k with
   | none=>rw[e3] at h0;exact h0
   | some ki=>rw[e3] at h0;exact h0.mono (fun _ h=>h) (fun _ _=>rfl) rfl (fun q hq=>k2out q (fun hin=>by rw[(hfr q hin).2.1 k o e2] at hq;cases hq))
 have split:∀ k o ki,(takeS s m j bs[i] es).obj k=some o→κ2 k=some ki→(∃ o',look bs[i].objs k=some o'∧k∈KB∧κb k=some ki)∨(∃ o',k ∉ KB∧s.obj k=some o'∧κ k=some ki):=fun k o ki e f=>by
  rcases hob2 k o e with ⟨rfl,rfl⟩ | ⟨e1,e2⟩ | ⟨e1,e3,e2⟩
  ·exact .inr ⟨_,hmK,hm,by rw[← k2out k hmK];exact f⟩
  ·exact .inl ⟨_,e1,e2,by rw[← k2in k e2];exact f⟩
  ·exact .inr ⟨_,e1,e2,by rw[← k2out k e1];exact f⟩
 refine⟨κ2,I,⟨hr.size,hr.defers,fun y => ?_,objs2,fun k k' o o' ki ki' e e' f f' hbb => ?_,fun k o ki e f => ?_,hr.inv.bound,hr.inv.keep,hr.inv.ikeep,hr.inv.fromI,fun k o ki e f => ?_,fun k hk' => ?_⟩,⟨?_,?_,?_,?_,?_⟩⟩
 ·exact(hr.slots y).mono (fun _ h=>h) (fun _ _=>rfl) (fun q hq=>k2out q (fun hin=>by
   have:=(hfr q hin).1 y;have hq:(s.get y).has q=true:=hq;rw[this] at hq;cases hq))
 ·rcases split k o ki e f with ⟨o1,e1,e2,e3⟩ | ⟨o1,e1,e2,e3⟩<;>rcases split k' o' ki' e' f' with ⟨o2,g1,g2,g3⟩ | ⟨o2,g1,g2,g3⟩
  ·exact b3 k k' _ _ ki ki' e1 g1 e3 g3 hbb
  ·exact absurd hbb.symm (hg.obj _ (hin _ (b4 k _ ki e1 e3)) k' _ ki' g2 g3)
  ·exact absurd hbb (hg.obj _ (hin _ (b4 k' _ ki' g1 g3)) k _ ki e2 e3)
  ·exact hr.inv.inj k k' _ _ ki ki' e2 g2 e3 g3 hbb
 ·rcases split k o ki e f with ⟨o1,e1,e2,e3⟩ | ⟨o1,e1,e2,e3⟩
  ·exact hg.dis _ (hin _ (b4 k _ ki e1 e3))
  ·exact hr.inv.disj k _ ki e2 e3
 ·rcases split k o ki e f with ⟨o1,e1,e2,e3⟩ | ⟨o1,e1,e2,e3⟩
  ·exact hg.new _ (hin _ (b4 k _ ki e1 e3))
  ·exact hr.inv.fromO k _ ki e2 e3
 ·have hk':k<s.floor:=hk'
  rw[k2out k (fun hin=>absurd (hfr k hin).2.2.2 (Nat.not_le.2 hk'))];exact hr.inv.fix k hk'
 ·refine⟨by simp[hl],(Z9w      hiB hnd).1,fun q h1 h2 => ?_⟩
  by_cases e:i=q
  ·subst e
   rw[List.getElem_set_self,List.getElem_set_self];exact⟨fun _=>none,.top _,fun k o e=>by simp[look] at e,fun k k' o o' ki ki' e=>by simp[look] at e,fun k o ki e=>by simp[look] at e⟩
  ·rw[List.getElem_set_ne e,List.getElem_set_ne e]
   exact hat q (by simpa using h1) (by simpa using h2)
 ·exact fun q hq=>hg.size q (Z5f hq)
 ·exact fun q hq=>hg.dis q (Z5f hq)
 ·intro q hq k o ki e f
  rcases split k o ki e f with ⟨o1,e1,e2,e3⟩ | ⟨o1,e1,e2,e3⟩
  ·exact fun hbb=>(Z9w hiB hnd).2 _ (b4 k _ ki e1 e3) (hbb ▸ hq)
  ·exact hg.obj q (Z5f hq) k _ ki e2 e3
 ·exact fun q hq=>hg.new q (Z5f hq)
def giveS (s:Z6) (m:Nat) (KB:List Nat) (es:List (Value×Im)):Z6 :=
 { slots:=s.slots,objs:=(m,some (.map es))::(KB.map (fun k=>(k,none))++s.objs),floor:=s.floor }
theorem obj_give (s:Z6) (m:Nat) (KB:List Nat) (es:List (Value×Im)) (k:Nat):(giveS s m KB es).obj k=if m=k then some (.map es) else if k∈KB then none else s.obj k:=by
 show(look ((m,some (.map es))::(KB.map (fun k=>(k,none))++s.objs)) k).getD none=_;rw[Z19];by_cases e:m=k
 ·rw[if_pos e,if_pos e];rfl
 ·rw[if_neg e,if_neg e];exact obj_sans s s.floor KB k
theorem bag_give {Γ:Ctx} {s:Z6} {bs:List Bun} {Bs:List (List Nat)} (KB:List Nat) (m i j:Nat) (v0:Value) (h:AVal) (objs:List (Nat×MObj)) (es:List (Value×Im)) (key:Value) (z:Im) (hi:i<bs.length) (hmK:m ∉ KB) (hm:s.obj m=some (.amap (es.map (·.1)) ((es.map fun p=>AVal.im p.2).set j h))) (he:es[j]? = some (key,z)) (hKn:KB.Nodup) (ho:∀ k o,look objs k=some o→k∈KB∧s.obj k=some o) (a:Act) (w:World) (hs:GSat Γ s (bag (bs.set i ⟨v0,.top,[]⟩) (Bs.set i [])) a w):∃ x:Value×List Nat,GSat Γ (giveS s m KB (es.set j (key,.sc x.1))) (bag (bs.set i ⟨x.1,h,objs⟩) (Bs.set i x.2)) a w:=by
 obtain⟨κ,I,hr,hg⟩:=hs;obtain⟨hl,hnd,hat⟩:=hg.holds;have hl:bs.length=Bs.length:=by simpa using hl
 have hiB:i<Bs.length:=hl ▸ hi;have hjl:j<es.length:=(List.getElem?_eq_some_iff.1 he).1;obtain⟨ki,arr,eκ,m0,m1,m2,m3⟩:=amap_at (hr.inv.objs m _ hm);simp only[List.length_map] at m1 m2 m3;obtain⟨ej,g1,g2,g3,g4⟩:=m3 j hjl;have hrep:Rep w I κ h ej.val:=by have:=g4 (by simp;exact hjl);rw[List.getElem_set_self] at this;exact this
 let B':List Nat:=Z4p κ s KB
 have hB':∀ q,q∈B'→∃ k∈KB,∃ o ki,s.obj k=some o∧κ k=some ki∧ki.b=q:=fun q hq=>Z3e.1 hq
 have hold:∀ k o ki,(giveS s m KB (es.set j (key,.sc ej.val))).obj k=some o→κ k=some ki→∃ o',s.obj k=some o'∧k ∉ KB:=fun k o ki e f=>by
  rw[obj_give] at e;by_cases c:m=k
  ·subst c;exact⟨_,hm,hmK⟩
  ·rw[if_neg c] at e
   by_cases c2:k∈KB
   ·rw[if_pos c2] at e;cases e
   ·rw[if_neg c2] at e;exact⟨o,e,c2⟩
 have mem':∀ q,q∈(Bs.set i B').flatten→q∈(Bs.set i []).flatten∨q∈B':=fun q hq=>by
  have e1:=(Z46 Bs i hiB B').2;have e2:=(Z46 Bs i hiB []).2;rw[e1] at hq;rw[e2];simp only[List.flatten_append,List.flatten_cons,List.nil_append,List.mem_append] at hq ⊢;rcases hq with h | h | h
  ·exact .inl (.inl h)
  ·exact .inr h
  ·exact .inl (.inr h)
 refine⟨(ej.val,B'),κ,I,⟨hr.size,hr.defers,hr.slots,fun k o e => ?_,fun k k' o o' ki ki' e e' f f' hbb => ?_,fun k o ki e f => ?_,hr.inv.bound,hr.inv.keep,hr.inv.ikeep,hr.inv.fromI,fun k o ki e f => ?_,hr.inv.fix⟩,⟨?_,?_,?_,?_,?_⟩⟩
 ·have e0:=e
  rw[obj_give] at e;by_cases c:m=k
  ·subst c
   rw[if_pos rfl] at e;obtain rfl:=Option.some.inj e;unfold OAt;rw[eκ];refine⟨arr,by simpa using m1,by simpa using m2,fun q hq => ?_⟩;simp only[List.length_set] at hq;obtain⟨e,f1,f2,f3,f4⟩:=m3 q hq;refine⟨e,f1,f2,?_,?_⟩
   ·rw[f3]
    by_cases c:j=q
    ·subst c;rw[List.getElem_set_self,List.getElem_map,(List.getElem?_eq_some_iff.1 he).2]
    ·rw[List.getElem_set_ne c,List.getElem_map]
   ·by_cases c:j=q
    ·subst c
     rw[List.getElem_set_self];rw[g1] at f1;obtain rfl:=Option.some.inj f1;exact .sc _
    ·rw[List.getElem_set_ne c]
     have:=f4 (by simpa using hq);rw[List.getElem_set_ne c,List.getElem_map] at this;cases this with
     | im h=>exact h
  ·rw[if_neg c] at e
   by_cases c2:k∈KB
   ·rw[if_pos c2] at e;cases e
   ·rw[if_neg c2] at e;exact hr.inv.objs k o e
 ·obtain⟨o1,e1,_⟩:=hold k o ki e f
  obtain⟨o2,e2,_⟩:=hold k' o' ki' e' f';exact hr.inv.inj k k' _ _ ki ki' e1 e2 f f' hbb
 ·obtain⟨o1,e1,_⟩:=hold k o ki e f
  exact hr.inv.disj k _ ki e1 f
 ·obtain⟨o1,e1,_⟩:=hold k o ki e f
  exact hr.inv.fromO k _ ki e1 f
 ·refine⟨by simp[hl],?_,fun q h1 h2 => ?_⟩
  ·have hn0:(Bs.set i []).flatten.Nodup:=hnd
   have e1:=(Z46 Bs i hiB B').2;have e2:=(Z46 Bs i hiB []).2;have apart':∀ q,q∈B'→q ∉ (Bs.set i []).flatten:=fun q hq hc=>by
    obtain⟨k,_,o,ki,q1,q2,q3⟩:=hB' q hq;exact hg.obj q hc k o ki q1 q2 q3
   rw[e2] at hn0 apart';rw[e1];simp only[List.flatten_append,List.flatten_cons,List.nil_append] at hn0 apart' ⊢;rw[List.nodup_append] at hn0 ⊢;obtain⟨a1,a2,a3⟩:=hn0;refine⟨a1,List.nodup_append.2 ⟨Z4o hr.inv.inj hKn,a2,fun a ha b hb e=>apart' a ha (List.mem_append_right _ (e ▸ hb))⟩,fun a ha b hb => ?_⟩;rcases List.mem_append.1 hb with hb | hb
   ·exact fun e=>apart' b hb (List.mem_append_left _ (e ▸ ha))
   ·exact a3 a ha b hb
  ·by_cases e:i=q
   ·subst e
    rw[List.getElem_set_self,List.getElem_set_self];exact⟨κ,hrep,fun k o e=>hr.inv.objs k o (ho k o e).2,fun k k' o o' ki ki' e e'=>hr.inv.inj k k' o o' ki ki' (ho k o e).2 (ho k' o' e').2,fun k o ki e f=>Z3e.2 ⟨k,(ho k o e).1,o,ki,(ho k o e).2,f,rfl⟩⟩
   ·rw[List.getElem_set_ne e,List.getElem_set_ne e]
    have:=hat q (by simpa using h1) (by simpa using h2);rw[List.getElem_set_ne e,List.getElem_set_ne e] at this;exact this
 ·intro q hq
  rcases mem' q hq with h | h
  ·exact hg.size q h
  ·obtain⟨k,_,o,ki,q1,q2,rfl⟩:=hB' q h
   have h0:=hr.inv.objs k o q1;unfold OAt at h0;rw[q2] at h0;exact h0.lt
 ·intro q hq
  rcases mem' q hq with h | h
  ·exact hg.dis q h
  ·obtain⟨k,_,o,ki,q1,q2,rfl⟩:=hB' q h
   exact hr.inv.disj k o ki q1 q2
 ·intro q hq k o ki e f
  obtain⟨o1,e1,n1⟩:=hold k o ki e f;rcases mem' q hq with h | h
  ·exact hg.obj q h k _ ki e1 f
  ·obtain⟨k',hk',o',ki',q1,q2,rfl⟩:=hB' q h
   exact fun hbb=>n1 (hr.inv.inj k k' _ o' ki ki' e1 q1 f q2 hbb ▸ hk')
 ·intro q hq
  rcases mem' q hq with h | h
  ·exact hg.new q h
  ·obtain⟨k,_,o,ki,q1,q2,rfl⟩:=hB' q h
   exact hr.inv.fromO k o ki q1 q2
theorem bag_pad {Γ:Ctx} {s:Z6} {bs:List Bun} {Bs:List (List Nat)} (v0:Value):GCv Γ s (bag bs Bs) s (bag (bs++[⟨v0,.top,[]⟩]) (Bs++[[]])):=by
 rintro a w ⟨κ,I,hr,hg⟩;obtain⟨hl,hnd,hat⟩:=hg.holds;have hfl:(Bs++[[]]).flatten=Bs.flatten:=by simp
 have hf:∀ q,q∈(bag (bs++[⟨v0,.top,[]⟩]) (Bs++[[]])).B→q∈(bag bs Bs).B:=fun q h=>by
  have h:q∈(Bs++[[]]).flatten:=h;rw[hfl] at h;exact h
 refine⟨κ,I,hr,⟨⟨by simp[hl],by rw[hfl];exact hnd,fun q h1 h2 => ?_⟩,fun q hq=>hg.size q (hf q hq),fun q hq=>hg.dis q (hf q hq),fun q hq=>hg.obj q (hf q hq),fun q hq=>hg.new q (hf q hq)⟩⟩;by_cases c:q<bs.length
 ·rw[List.getElem_append_left c,List.getElem_append_left (by omega)]
  exact hat q c (by omega)
 ·have hj:q=bs.length:=by simp at h1;omega
  subst hj;have e1:(bs++[(⟨v0,.top,[]⟩:Bun)])[bs.length]=⟨v0,.top,[]⟩:=by simp
  have e2:(Bs++[[]])[bs.length]=[]:=by simp[hl]
  rw[e1,e2];exact⟨fun _=>none,.top _,fun k o e=>by simp[look] at e,fun k k' o o' ki ki' e=>by simp[look] at e,fun k o ki e=>by simp[look] at e⟩
theorem map_amap {w:World} {I:Nat→Prop} {κ:Nat→Option KI} {k:Nat} {es:List (Value×Im)} (h:OAt w I κ k (.map es)):OAt w I κ k (.amap (es.map (·.1)) (es.map fun p=>AVal.im p.2)):=by
 obtain⟨ki,arr,eκ,h1,h2,h3⟩:=Zak h;unfold OAt;rw[eκ];refine⟨by simp,arr,by simpa using h1,by simpa using h2,fun i hi => ?_⟩;simp only[List.length_map] at hi;obtain⟨e,g1,g2,g3,g4⟩:=h3 i hi;exact⟨e,g1,g2,by rw[g3];simp,fun h'=>by rw[List.getElem_map];exact .im g4⟩
theorem g_amap {Γ:Ctx} {s:Z6} {g:Gh} (m:Nat) (es:List (Value×Im)) (hm:s.obj m=some (.map es)):GCv Γ s g { s with objs:=(m,some (.amap (es.map (·.1)) (es.map fun p=>AVal.im p.2)))::s.objs } g:=by
 rintro a w ⟨κ,I,hr,hg⟩;have hobj:∀ k o,({ s with objs:=(m,some (.amap (es.map (·.1)) (es.map fun p=>AVal.im p.2)))::s.objs }:Z6).obj k=some o→∃ o',s.obj k=some o'∧(o'=o∨(k=m∧o = .amap (es.map (·.1)) (es.map fun p=>AVal.im p.2))):=fun k o e=>by
  have e1:(look ((m,some (MObj.amap (es.map (·.1)) (es.map fun p=>AVal.im p.2)))::s.objs) k).getD none=some o:=e;clear e;rw[Z19] at e1;by_cases c:m=k
  ·subst c;rw[if_pos rfl] at e1;have e2:=Option.some.inj e1;exact⟨_,hm,.inr ⟨rfl,e2.symm⟩⟩
  ·rw[if_neg c] at e1;exact⟨o,e1,.inl rfl⟩
 refine⟨κ,I,⟨hr.size,hr.defers,hr.slots,fun k o e => ?_,fun k k' o o' ki ki' e e' f f' hbb => ?_,fun k o ki e f => ?_,hr.inv.bound,hr.inv.keep,hr.inv.ikeep,hr.inv.fromI,fun k o ki e f => ?_,hr.inv.fix⟩,⟨hg.holds,hg.size,hg.dis,fun b hb k o ki e f => ?_,hg.new⟩⟩
 ·obtain⟨o',e1,rfl | ⟨rfl,rfl⟩⟩:=hobj k o e
  ·exact hr.inv.objs k _ e1
  ·exact map_amap (hr.inv.objs k _ hm)
 ·obtain⟨o1,e1,_⟩:=hobj k o e
  obtain⟨o2,e2,_⟩:=hobj k' o' e';exact hr.inv.inj k k' _ _ ki ki' e1 e2 f f' hbb
 ·obtain⟨o1,e1,_⟩:=hobj k o e
  exact hr.inv.disj k _ ki e1 f
 ·obtain⟨o1,e1,_⟩:=hobj k o e
  exact hr.inv.fromO k _ ki e1 f
 ·obtain⟨o1,e1,_⟩:=hobj k o e
  exact hg.obj b hb k _ ki e1 f
end Go.Pv
namespace Go.Pv
open Go.Instr
theorem ba_beq (a b:ByteArray):(a==b)=decide (a=b):=by
 show(a.data==b.data)=_;rw[Bool.eq_iff_iff,decide_eq_true_eq,beq_iff_eq];exact⟨fun h=>by cases a;cases b;simp at h;subst h;rfl,fun h=>by rw[h]⟩
abbrev vkS (a:ByteArray):Value:=.string a
theorem Z7l {P:Program} {t:TypeId} (ht:P.underlying t=some .string):Z5v P t vkS :=
 key_plain ht (fun b a w=>by
  have:∀ n,(checkKey b (n+1) t (.string a)).run P w = .ok () w:=fun n=>by simp[checkKey,Zx ht]
  exact this 9999) (fun a b=>by
  simp only[sameNow];congr 1;rw[ba_beq];by_cases c:b=a
  ·subst c;simp
  ·simp[c];exact fun h=>c (Eq.symm h)) (fun a=>by simp[sameBits,ba_beq])
abbrev dE {K B:Type} (vk:K→Value) (f:B→List Im) (l:List (K×B)):List (Value×List Im):=l.map fun p=>(vk p.1,f p.2)
theorem dmap_at {w:World} {I:Nat→Prop} {κ:Nat→Option KI} {k:Nat} {es:List (Value×List Im)} (h:OAt w I κ k (.dmap es)):∃ ki arr,κ k=some ki∧w.heap[ki.b]? = some (.map arr es.length)∧arr.size=es.length ∧
  ∀ i (h:i<es.length),∃ e,arr[i]? = some e∧e.born=i∧e.key=(es[i]).1∧Rep w I (fun _=>none) (.agg ((es[i]).2.map .im)) e.val:=by
 unfold OAt at h;cases e:κ k with
 | none=>rw[e] at h;obtain⟨_,_,h⟩:=h;simp at h
 | some ki=>rw[e] at h;obtain⟨arr,h1,h2,h3⟩:=h;exact⟨ki,arr,rfl,h1,h2,h3⟩
theorem hasL_im (k:Nat):∀ l:List Im,hasL k (l.map AVal.im)=false
 | []=>rfl
 | x::l=>by show(AVal.has k (.im x)||hasL k (l.map AVal.im))=false;rw[hasL_im k l];rfl
theorem Rep.aggκ {w:World} {I:Nat→Prop} {κ κ':Nat→Option KI} {l:List Im} {v:Value} (h:Rep w I κ (.agg (l.map .im)) v):Rep w I κ' (.agg (l.map .im)) v :=
 h.mono (fun _ h=>h) (fun _ _=>rfl) (fun k hk=>by
  have:hasL k (l.map AVal.im)=true:=hk;rw[hasL_im] at this;cases this)
def xMkD (k:Nat):Ext where
 f P o s:=match o.op with
  | .makeMap t none=>some ⟨[],[k],.mown k,[(k,some (.dmap []))],[]⟩
  | _=>none
 ok P o s e he hp:=by
  split at he
  ·rename_i t ho
   obtain rfl:=Option.some.inj he;refine .of fun Γ κ I s2 a w hP hr hn hf => ?_;have hfk:=hf k (by simp[mkSp])
   let ki:KI:=⟨w.heap.size,0,0,0⟩
   have hO:ORep (World.alloc' w (.map #[] 0)) I (setK κ k (some ki)) ki (.dmap []):=⟨#[],Z4b _ _,rfl,fun i h=>absurd h (Nat.not_lt_zero _)⟩
   obtain⟨f1,f2,f3⟩:=hr.inv.alloc hfk (ki:=ki) rfl hO;refine⟨_,_,_,_,I,.inl rfl,?_,f1,fun _ h=>h,f2,f3,.mown (ki:=ki) (Z1n ..)⟩;simp[execOp,ho,makeMap,newObj,Sem.run,World.alloc',ki]
  ·simp at he
def xPutD {K B:Type} [DecidableEq K] (vk:K→Value) (f:B→List Im) (l:List (K×B)) (k:K) (v:B):Ext where
 f P o s:=match putOp o.op with
  | some (t,x,y,z)=>match P.underlying t,s.eval x with
   | some (.map kt et),.mown m=>match s.obj m with
    | some (.dmap es)=>some ⟨[m],[],.top,[(m,some (.dmap (dE vk f (mput l k v))))],[Z5v P kt vk,es=dE vk f l,valA (s.eval y)=some (vk k),Z9i (s.eval z) = .agg ((f v).map .im)]⟩
    | _=>none
   | _,_=>none
  | none=>none
 ok P o s e he hp:=by
  split at he
  ·rename_i t x y z hop
   have hop:=putOp_of hop;split at he
   ·rename_i kt et m ht hx
    split at he
    ·rename_i es hm
     obtain rfl:=Option.some.inj he;obtain⟨hK,rfl,hy,hz,_⟩:=hp;refine .of fun Γ κ I s2 a w hP hr hn hf => ?_;have g1:=opd hr hn x (by rcases hop with ho | ho<;>simp[ho,Op.operands]) hx;have g2:=Z6p hy (opd hr hn y (by rcases hop with ho | ho<;>simp[ho,Op.operands]) rfl);have hv0:=Z7u (opd hr hn z (by rcases hop with ho | ho<;>simp[ho,Op.operands]) rfl);rw[hz] at hv0;have hv:Rep w I (fun _=>none) (.agg ((f v).map .im)) (a.eval z):=hv0.aggκ;have hm2:=(Z1h hn m (by simp)).trans hm;obtain⟨ki,eκ,ex⟩:=Z61 g1;obtain⟨ki',arr,eκ',h1,h2,h3⟩:=dmap_at (hr.inv.objs m _ hm2);rw[eκ] at eκ';obtain rfl:=Option.some.inj eκ';simp only[List.length_map] at h1 h2 h3;have h3':∀ i (h:i<l.length),∃ e,arr[i]? = some e∧e.born=i∧e.key=vk (l[i]).1∧Rep w I (fun _=>none) (.agg ((f (l[i]).2).map .im)) e.val:=fun i h=>by
      obtain⟨e,a1,a2,a3,a4⟩:=h3 i h;exact⟨e,a1,a2,by rw[a3];simp,by simpa using a4⟩
     have hks:arr.toList.map (·.key)=(l.map (·.1)).map vk:=by
      apply List.ext_getElem
      ·simp[h2]
      ·intro i q1 q2
       simp only[List.length_map,Array.length_toList] at q1;obtain⟨e,e1,_,e3,_⟩:=h3' i (by omega);rw[Array.getElem?_eq_getElem q1] at e1;obtain rfl:=Option.some.inj e1;simp[e3]
     obtain⟨r1,r2⟩:=run_mput (v:=a.eval z) (k:=k) ht hK h1 hks;have hb:ki.b<w.heap.size:=(Array.getElem?_eq_some_iff.1 h1).1;have hne:∀ ob b,I b→(World.setBlock w ki.b ob).heap[b]? = w.heap[b]? := fun ob b hb'=>by
      rw[Z13 _ _ _ _ hb,if_neg];rintro rfl;exact hr.inv.disj m _ ki hm2 eκ hb'
     have fin:∀ ob,(execOp a.eval o).run P w = .ok .skip (World.setBlock w ki.b ob)→ORep (World.setBlock w ki.b ob) I κ ki (.dmap (dE vk f (mput l k v))) →
       ∃ v' nx w' κ' I',Gives v' nx∧(execOp a.eval o).run P w = .ok nx w'∧Inv Γ κ' I' (s2.objput [(m,some (.dmap (dE vk f (mput l k v))))]) w'∧(∀ b,I b→I' b)∧(∀ b,I b→w'.heap[b]? = w.heap[b]?)∧(∀ x k,(s2.get x).has k=true→κ' k=κ k)∧Rep w' I' κ' .top v':=by
      intro ob hrun hO;obtain⟨f1,f2⟩:=hr.inv.update hm2 eκ hO;exact⟨_,_,_,κ,I,.inr ⟨rfl,rfl⟩,hrun,f1,fun _ h=>h,f2,fun _ _ _=>rfl,.top _⟩
     rcases Zan k l arr.toList 0 (by simp[h2]) with ⟨q1,q2,q3⟩ | ⟨i,e,p,q1,q2,q3,q4,q5,q6⟩
     ·refine fin (.map (arr.push ⟨vk k,a.eval z,l.length⟩) (l.length+1)) (by rcases hop with ho | ho<;>simp only[execOp,ho,ex,g2,Sem.run_bind,r1 q1,Result.andThen_ok,Sem.run_pure]) ?_
      rw[q3];refine⟨arr.push ⟨vk k,a.eval z,l.length⟩,by rw[Z13 _ _ _ _ hb,if_pos rfl];simp,by simp[h2],fun i hi => ?_⟩;simp only[List.length_map,List.length_append,List.length_cons,List.length_nil] at hi;by_cases c:i<l.length
      ·obtain⟨e,a1,a2,a3,a4⟩:=h3' i c
       refine⟨e,by rw[Array.getElem?_push,if_neg (by omega),a1],a2,?_,?_⟩
       ·rw[a3];simp[List.getElem_append,c]
       ·have:((dE vk f (l++[(k,v)]))[i]'(by simp;omega)).2=f (l[i]).2:=by simp[List.getElem_append,c]
        rw[this];exact a4.mono (fun _ h=>h) (hne _) (fun _ _=>rfl)
      ·have hi':i=l.length:=by omega
       refine⟨⟨vk k,a.eval z,l.length⟩,by rw[Array.getElem?_push,if_pos (by omega)],by simp[hi'],by simp[hi'],?_⟩;have:((dE vk f (l++[(k,v)]))[i]'(by simp;omega)).2=f v:=by simp[hi']
       rw[this];exact hv.mono (fun _ h=>h) (hne _) (fun _ _=>rfl)
     ·have q1':arr[i]? = some e:=by simpa using q1
      have hil:i<l.length:=(List.getElem?_eq_some_iff.1 q2).1;obtain⟨e',a1,a2,a3,a4⟩:=h3' i hil;rw[q1'] at a1;obtain rfl:=Option.some.inj a1;have hkey:e.key=vk k:=by
       rw[a3];have:=(List.getElem?_eq_some_iff.1 q2).2;simp[this,q3]
      have hrun:=r2 i e.val e (by rw[q4];simp) q1' hkey;refine fin (.map (arr.modify i fun e => { e with key:=vk k,val:=a.eval z }) l.length) (by rcases hop with ho | ho<;>simp only[execOp,ho,ex,g2,Sem.run_bind,hrun,Result.andThen_ok,Sem.run_pure]) ?_;rw[q6];refine⟨arr.modify i fun e => { e with key:=vk k,val:=a.eval z },by rw[Z13 _ _ _ _ hb,if_pos rfl];simp,by simp[h2],fun j hj => ?_⟩;simp only[List.length_map,List.length_set] at hj;obtain⟨e2,b1,b2,b3,b4⟩:=h3' j hj;by_cases c:i=j
      ·subst c
       refine⟨{ e with key:=vk k,val:=a.eval z },by simp[Array.getElem?_modify,q1'],a2,by simp,?_⟩;have:((dE vk f (l.set i (k,v)))[i]'(by simp;omega)).2=f v:=by simp
       rw[this];exact hv.mono (fun _ h=>h) (hne _) (fun _ _=>rfl)
      ·refine⟨e2,by simp[Array.getElem?_modify,c,b1],b2,?_,?_⟩
       ·rw[b3];simp[List.getElem_set,c]
       ·have:((dE vk f (l.set i (k,v)))[j]'(by simp;omega)).2=f (l[j]).2:=by simp[List.getElem_set,c]
        rw[this];exact b4.mono (fun _ h=>h) (hne _) (fun _ _=>rfl)
    ·simp at he
   ·simp at he
  ·simp at he
def xLookD {K B:Type} [DecidableEq K] (vk:K→Value) (f:B→List Im) (l:List (K×B)) (k:K) (v0:B):Ext where
 f P o s:=match o.op with
  | .lookup t x y false=>match P.underlying t,s.eval x with
   | some (.map kt et),.mown m=>match s.obj m,Z7p   P et with
    | some (.dmap es),some z=>some ⟨[m],[],.agg ((f ((mget l k).getD v0)).map .im),[],[Z5v P kt vk,es=dE vk f l,valA (s.eval y)=some (vk k),Z9i z = .agg ((f v0).map .im)]⟩
    | _,_=>none
   | _,_=>none
  | _=>none
 ok P o s e he hp:=by
  split at he
  ·rename_i t x y ho
   split at he
   ·rename_i kt et m ht hx
    split at he
    ·rename_i es z hm hz
     obtain rfl:=Option.some.inj he;obtain⟨hK,rfl,hy,hr0,_⟩:=hp;unfold Z7p at hz;cases hi:P.info? et with
     | none=>rw[hi] at hz;simp at hz
     | some i =>
      cases hzz:i.zero with
      | none=>rw[hi] at hz;simp[hzz] at hz
      | some zv =>
       rw[hi] at hz;simp[hzz] at hz;refine .quiet rfl fun Γ κ I s2 a w hP hr hn => ?_;have g1:=opd hr hn x (by simp[ho,Op.operands]) hx;have g2:=Z6p hy (opd hr hn y (by simp[ho,Op.operands]) rfl);have hm2:=(Z1h hn m (by simp)).trans hm;obtain⟨ki,eκ,ex⟩:=Z61 g1;obtain⟨ki',arr,eκ',h1,h2,h3⟩:=dmap_at (hr.inv.objs m _ hm2);rw[eκ] at eκ';obtain rfl:=Option.some.inj eκ';simp only[List.length_map] at h1 h2 h3;have h3':∀ i (h:i<l.length),∃ e,arr[i]? = some e∧e.born=i∧e.key=vk (l[i]).1∧Rep w I (fun _=>none) (.agg ((f (l[i]).2).map .im)) e.val:=fun i h=>by
        obtain⟨e,a1,a2,a3,a4⟩:=h3 i h;exact⟨e,a1,a2,by rw[a3];simp,by simpa using a4⟩
       have hks:arr.toList.map (·.key)=(l.map (·.1)).map vk:=by
        apply List.ext_getElem
        ·simp[h2]
        ·intro i q1 q2
         simp only[List.length_map,Array.length_toList] at q1;obtain⟨e,e1,_,e3,_⟩:=h3' i (by omega);rw[Array.getElem?_eq_getElem q1] at e1;obtain rfl:=Option.some.inj e1;simp[e3]
       have hz0:(zeroValue et).run P w = .ok zv w:=by simp[zeroValue,Z1l hi,hzz]
       have hrun:=Za6 (k:=k) (c:=false) ht hK h1 hks hz0;have hrep:Rep w I κ (.agg ((f ((mget l k).getD v0)).map .im)) (((hit k (l.map (·.1)) arr.toList 0).map (·.2)).getD zv):=by
        rcases Zan k l arr.toList 0 (by simp[h2]) with ⟨q1,q2,q3⟩ | ⟨i,e,p,q1,q2,q3,q4,q5,q6⟩
        ·rw[q1,q2]
         have:=Z7u (Z4k w I κ zv);rw[hz,hr0] at this;exact this
        ·rw[q4,q5]
         have q1':arr[i]? = some e:=by simpa using q1
         have hil:i<l.length:=(List.getElem?_eq_some_iff.1 q2).1;obtain⟨e',a1,a2,a3,a4⟩:=h3' i hil;rw[q1'] at a1;obtain rfl:=Option.some.inj a1;have:=(List.getElem?_eq_some_iff.1 q2).2;rw[this] at a4;exact a4.aggκ
       exact⟨_,by simp[execOp,ho,ex,g2,hrun],hrep⟩
    ·simp at he
   ·simp at he
  ·simp at he
end Go.Pv
namespace Go.Pv
section
variable {K B:Type}
def qA (q:QL K B):List (K×AVal):=q.map fun y=>(y.1.1,AVal.im (.sc y.2))
theorem q_take [DecidableEq K] (lo:K):∀ q:QL K B,(mget (qS q) lo=none∧mget (qA q) lo=none∧(∀ bk v,mput (qS q) lo bk=qS (q++[((lo,bk),v)]))∧∀ h,mput (qA q) lo h=qA q++[(lo,h)]) ∨
  ∃ i bk v,q[i]? = some ((lo,bk),v)∧mget (qS q) lo=some bk∧(∀ bk' u,mput (qS q) lo bk'=qS (q.set i ((lo,bk'),u)))∧∀ h,mget ((qA q).set i (lo,h)) lo=some h∧∀ h',mput ((qA q).set i (lo,h)) lo h'=(qA q).set i (lo,h')
 | []=>.inl ⟨rfl,rfl,fun bk v=>rfl,fun h=>rfl⟩
 | y::q=>by
  obtain⟨⟨k,b⟩,u⟩:=y;by_cases e:k=lo
  ·subst e
   refine .inr ⟨0,b,u,rfl,?_,fun bk' u' => ?_,fun h=>⟨?_,fun h' => ?_⟩⟩
   ·show mget ((k,b)::qS q) k=_;rw[mget,if_pos rfl]
   ·show mput ((k,b)::qS q) k bk'=_;rw[mput,if_pos rfl];rfl
   ·show mget ((k,h)::qA q) k=_;rw[mget,if_pos rfl]
   ·show mput ((k,h)::qA q) k h'=_;rw[mput,if_pos rfl];rfl
  ·rcases q_take lo q with ⟨h1,h2,h3,h4⟩ | ⟨i,bk,v,h1,h2,h3,h4⟩
   ·refine .inl ⟨?_,?_,fun bk v => ?_,fun h => ?_⟩
    ·show mget ((k,b)::qS q) lo=_;rw[mget,if_neg e];exact h1
    ·show mget ((k,AVal.im (.sc u))::qA q) lo=_;rw[mget,if_neg e];exact h2
    ·show mput ((k,b)::qS q) lo bk=_;rw[mput,if_neg e,h3 bk v];rfl
    ·show mput ((k,AVal.im (.sc u))::qA q) lo h=_;rw[mput,if_neg e,h4 h];rfl
   ·refine .inr ⟨i+1,bk,v,h1,?_,fun bk' u' => ?_,fun h=>⟨?_,fun h' => ?_⟩⟩
    ·show mget ((k,b)::qS q) lo=_;rw[mget,if_neg e];exact h2
    ·show mput ((k,b)::qS q) lo bk'=_;rw[mput,if_neg e,h3 bk' u'];rfl
    ·show mget ((k,AVal.im (.sc u))::(qA q).set i (lo,h)) lo=_;rw[mget,if_neg e];exact(h4 h).1
    ·show mput ((k,AVal.im (.sc u))::(qA q).set i (lo,h)) lo h'=_;rw[mput,if_neg e,(h4 h).2 h'];rfl
theorem qA_keys (vk:K→Value) (q:QL K B):(mE vk Im.sc (qM q)).map (·.1)=(qA q).map (fun p=>vk p.1):=by simp[mE,qM,qA]
theorem Z8q (vk:K→Value) (q:QL K B):((mE vk Im.sc (qM q)).map fun p=>AVal.im p.2)=(qA q).map (·.2):=by simp[mE,qM,qA]
theorem qA_keys' (vk:K→Value) {q:QL K B} {i:Nat} {lo:K} {bk:B} {v:Value} (h:AVal) (hi:q[i]? = some ((lo,bk),v)):(mE vk Im.sc (qM q)).map (·.1)=((qA q).set i (lo,h)).map (fun p=>vk p.1):=by
 rw[List.map_set,qA_keys];obtain⟨hl,e⟩:=List.getElem?_eq_some_iff.1 hi;apply List.ext_getElem?;intro j;by_cases c:i=j
 ·subst c
  rw[List.getElem?_set_self (by simpa[qA] using hl)];simp[qA,hi]
 ·rw[List.getElem?_set_ne c]
theorem qA_vals' (vk:K→Value) (q:QL K B) (i:Nat) (lo:K) (h:AVal):((mE vk Im.sc (qM q)).map fun p=>AVal.im p.2).set i h=((qA q).set i (lo,h)).map (·.2):=by
 rw[List.map_set,Z8q]
theorem mE_set (vk:K→Value) {q:QL K B} {i:Nat} {lo:K} {bk':B} {x:Value}:(mE vk Im.sc (qM q)).set i (vk lo,.sc x)=mE vk Im.sc (qM (q.set i ((lo,bk'),x))):=by
 simp[mE,qM,List.map_set]
theorem mE_app (vk:K→Value) {q:QL K B} {lo:K} {bk':B} {x:Value} {z:Im}:(mE vk Im.sc (qM q)++[(vk lo,z)]).set q.length (vk lo,.sc x)=mE vk Im.sc (qM (q++[((lo,bk'),x)])):=by
 have:q.length=(mE vk Im.sc (qM q)).length:=by simp[mE,qM]
 rw[this,List.set_append_right _ _ (Nat.le_refl _),Nat.sub_self];simp[mE,qM]
end
theorem has_qA {K B:Type} {q:QL K B} {k:Nat}:hasL k ((qA q).map (·.2))=false:=by
 induction q with
 | nil=>rfl
 | cons y q ih=>show(AVal.has k (.im (.sc y.2))||hasL k ((qA q).map (·.2)))=false;rw[ih];rfl
theorem hasL_set {k:Nat} {h:AVal} (hh:h.has k=false):∀ {l:List AVal} {i:Nat},hasL k l=false→hasL k (l.set i h)=false
 | [],_,_=>rfl
 | x::l,0,e=>by
  simp only[hasL,Bool.or_eq_false_iff] at e;show(h.has k||hasL k l)=false;rw[hh,e.2];rfl
 | x::l,i+1,e=>by
  simp only[hasL,Bool.or_eq_false_iff] at e;show(x.has k||hasL k (l.set i h))=false;rw[e.1,hasL_set hh e.2];rfl
theorem Z9u {K B:Type} {q:QL K B} {k:Nat} (ks:List Value) (vk:K→Value):(MObj.amap ks ((mE vk Im.sc (qM q)).map fun p=>AVal.im p.2)).has k=false:=by
 show hasL k _=false;rw[Z8q];exact has_qA
theorem Z85 {K B:Type} {q:QL K B} {k c i:Nat} (ks:List Value) (vk:K→Value) (h:c≠k):(MObj.amap ks (((mE vk Im.sc (qM q)).map fun p=>AVal.im p.2).set i (.own c))).has k=false:=by
 show hasL k _=false;refine hasL_set ?_ ?_
 ·show Nat.beq c k=false
  cases e:Nat.beq c k with
  | false=>rfl
  | true=>exact absurd (Nat.eq_of_beq_eq_true e) h
 ·rw[Z8q];exact has_qA
theorem BunAt.ren {w:World} {I:Nat→Prop} {v:Value} {k k':Nat} {o:MObj} {B:List Nat} (no:∀ q,o.has q=false) (h:BunAt w I ⟨v,.own k,[(k,o)]⟩ B):BunAt w I ⟨v,.own k',[(k',o)]⟩ B:=by
 obtain⟨κ,h1,h2,h3,h4⟩:=h;have hl:look [(k,o)] k=some o:=by rw[Z19,if_pos rfl]
 have hl':∀ q o',look [(k',o)] q=some o'→q=k'∧o'=o:=fun q o' e=>by
  rw[Z19] at e;by_cases c:k'=q
  ·rw[if_pos c] at e;exact⟨c.symm,(Option.some.inj e).symm⟩
  ·rw[if_neg c] at e;cases e
 refine⟨fun _=>κ k,?_,fun q o' e => ?_,fun q q' o1 o2 ki ki' e e' _ _ _=>((hl' q o1 e).1).trans ((hl' q' o2 e').1).symm,fun q o' ki e f => ?_⟩
 ·show Rep w I (fun _=>κ k) (.own k') v
  have h1:Rep w I κ (.own k) v:=h1;cases h1 with
  | own0 base e=>exact .own0 base e
  | own e=>exact .own e
 ·obtain⟨rfl,rfl⟩:=hl' q o' e
  have h0:=h2 k o' hl;unfold OAt at h0 ⊢;show(match κ k with | none=>_ | some ki=>_);cases e3:κ k with
  | none=>rw[e3] at h0;exact h0
  | some ki=>rw[e3] at h0;exact h0.mono (fun _ h=>h) (fun _ _=>rfl) rfl (fun q hq=>by rw[no q] at hq;cases hq)
 ·exact h4 k o ki hl f
theorem bag_ren {Γ:Ctx} {s:Z6} {bs:List Bun} {Bs:List (List Nat)} {i:Nat} {v:Value} {k:Nat} (k':Nat) {o:MObj} (no:∀ q,o.has q=false):GCv Γ s (bag (bs.set i ⟨v,.own k,[(k,o)]⟩) Bs) s (bag (bs.set i ⟨v,.own k',[(k',o)]⟩) Bs):=by
 rintro a w ⟨κ,I,hr,hg⟩;obtain⟨hl,hnd,hat⟩:=hg.holds;refine⟨κ,I,hr,⟨⟨by simpa using hl,hnd,fun j h1 h2 => ?_⟩,hg.size,hg.dis,hg.obj,hg.new⟩⟩;have h0:=hat j (by simpa using h1) h2;by_cases e:i=j
 ·subst e
  rw[List.getElem_set_self] at h0 ⊢;exact h0.ren no
 ·rw[List.getElem_set_ne e] at h0 ⊢
  exact h0
theorem bag_len {Γ:Ctx} {s:Z6} {bs:List Bun} {Bs:List (List Nat)} (a:Act) (w:World) (h:GSat Γ s (bag bs Bs) a w):bs.length=Bs.length:=by
 obtain⟨κ,I,hr,hg⟩:=h;exact hg.holds.1
theorem set_last {α:Type} (l:List α) (x:α):(l++[x]).set l.length x=l++[x]:=by simp
section
variable {K B:Type}
theorem qB_len (h:AVal) (f:B→List (Nat×MObj)) (q:QL K B):(qB h f q).length=q.length:=by simp[qB]
theorem aM_app (vk:K→Value) (q:QL K B) (lo:K) (z:Im) (h:AVal):aM vk (qA q++[(lo,h)]) = .amap ((mE vk Im.sc (qM q)++[(vk lo,z)]).map (·.1)) (((mE vk Im.sc (qM q)++[(vk lo,z)]).map fun p=>AVal.im p.2).set q.length h):=by
 have e:q.length=((mE vk Im.sc (qM q)).map fun p=>AVal.im p.2).length:=by simp[mE,qM]
 have e2:((mE vk Im.sc (qM q)++[(vk lo,z)]).map fun p=>AVal.im p.2).set q.length h=(qA q++[(lo,h)]).map (·.2):=by
  rw[List.map_append,e,List.set_append_right _ _ (Nat.le_refl _),Nat.sub_self,Z8q];simp
 rw[e2];show MObj.amap _ _=MObj.amap _ _;congr 1;rw[List.map_append,List.map_append,qA_keys];rfl
theorem bag_back {Γ:Ctx} {s:Z6} {q:QL K B} {Bs:List (List Nat)} {i:Nat} {lo:K} {bk:B} {v:Value} (vk:K→Value) (f:B→List (Nat×MObj)) (m k k':Nat) (new:B) (o:MObj) (hi:q[i]? = some ((lo,bk),v)) (hmk:m≠k) (hm:s.obj m=some (aM vk ((qA q).set i (lo,.own k)))) (ho:s.obj k=some o) (no:∀ q,o.has q=false) (hf:f new=[(k',o)]) (a:Act) (w:World) (hs:GSat Γ s (bag ((qB (.own k') f q).set i ⟨v,.top,[]⟩) (Bs.set i [])) a w) :
  ∃ x B',GSat Γ (giveS s m [k] (mE vk Im.sc (qM (q.set i ((lo,new),x))))) (bag (qB (.own k') f (q.set i ((lo,new),x))) (Bs.set i B')) a w:=by
 obtain⟨hl,e⟩:=List.getElem?_eq_some_iff.1 hi;obtain⟨⟨x,B'⟩,hx⟩:=bag_give [k] m i i v (.own k) [(k,o)] (mE vk Im.sc (qM q)) (vk lo) (.sc v) (by rw[qB_len];exact hl) (by simpa using hmk)
  (by rw[hm,qA_keys' vk (.own k) hi,qA_vals']) (by simp[mE,qM,hi]) (by simp) (fun k2 o2 e2=>by
   rw[Z19] at e2;by_cases c:k=k2
   ·rw[if_pos c] at e2;obtain rfl:=Option.some.inj e2;subst c;exact⟨by simp,ho⟩
   ·rw[if_neg c] at e2;cases e2) a w hs
 refine⟨x,B',?_⟩;have h2:=bag_ren k' no a w hx;rw[mE_set vk (bk':=new)] at h2;rw[qB_set,hf];exact h2
theorem bag_fresh {Γ:Ctx} {s:Z6} {q:QL K B} {Bs:List (List Nat)} {lo:K} (vk:K→Value) (f:B→List (Nat×MObj)) (m k k':Nat) (new:B) (o:MObj) (hmk:m≠k) (hm:s.obj m=some (aM vk (qA q++[(lo,.own k)]))) (ho:s.obj k=some o) (no:∀ q,o.has q=false) (hf:f new=[(k',o)]) (a:Act) (w:World) (hs:GSat Γ s (bag (qB (.own k') f q) Bs) a w) :
  ∃ x B',GSat Γ (giveS s m [k] (mE vk Im.sc (qM (q++[((lo,new),x)])))) (bag (qB (.own k') f (q++[((lo,new),x)])) (Bs++[B'])) a w:=by
 have hl:=bag_len a w hs;have hq:q.length=(qB (.own k') f q).length:=(qB_len _ _ _).symm;have hs2:=bag_pad undef a w hs;have e1:(qB (.own k') f q++[(⟨undef,.top,[]⟩:Bun)]).set q.length ⟨undef,.top,[]⟩=qB (.own k') f q++[⟨undef,.top,[]⟩]:=by rw[hq];exact set_last _ _
 have e2:(Bs++[([]:List Nat)]).set q.length []=Bs++[[]]:=by rw[hq,hl];exact set_last _ _
 obtain⟨⟨x,B'⟩,hx⟩:=bag_give (bs:=qB (.own k') f q++[⟨undef,.top,[]⟩]) (Bs:=Bs++[[]]) [k] m q.length q.length undef (.own k) [(k,o)] (mE vk Im.sc (qM q)++[(vk lo,.sc undef)]) (vk lo) (.sc undef) (by simp[qB]) (by simpa using hmk)
  (by rw[hm,aM_app vk q lo (.sc undef)]) (by
   have:q.length=(mE vk Im.sc (qM q)).length:=by simp[mE,qM]
   rw[this,List.getElem?_append_right (Nat.le_refl _),Nat.sub_self];rfl) (by simp) (fun k2 o2 e2=>by
   rw[Z19] at e2;by_cases c:k=k2
   ·rw[if_pos c] at e2;obtain rfl:=Option.some.inj e2;subst c;exact⟨by simp,ho⟩
   ·rw[if_neg c] at e2;cases e2) a w (by rw[e1,e2];exact hs2)
 refine⟨x,B',?_⟩;have h2:=bag_ren k' no a w hx;rw[mE_app vk (bk':=new)] at h2;have e3:(qB (.own k') f q++[(⟨undef,.top,[]⟩:Bun)]).set q.length ⟨x,.own k',[(k',o)]⟩=qB (.own k') f (q++[((lo,new),x)]):=by
  rw[hq,qB_app,hf];simp
 have e4:(Bs++[([]:List Nat)]).set q.length B'=Bs++[B']:=by rw[hq,hl];simp
 rw[e3] at h2;rw[← e4];exact h2
end
theorem OpOK.frozenG {P:Program} {o:Oper} {s:Z6} {keys news ids:List Nat} {res:AVal} {post:List (Nat×Option MObj)} {k sz el:Nat} {es:List (List Im)} (h:OpOK P o (mkSp s o keys news res post)) (hk:look post k=some (some (.row sz el es))):OpOK P o (mkSp s o keys news (pass (ids.map fun q=>(q,q)) [(k,es)] res) ((k,none)::post)):=by
 intro Γ hP hd s2 a w hs hn hf K Q hK;refine h Γ hP hd s2 a w hs hn hf K Q (fun a' w' hs'=>hK a' w' ?_);obtain⟨κ,I,hr⟩:=hs';have hact:∀ (res:AVal) (post:List (Nat×Option MObj)) (q:Nat),((mkSp s o keys news res post).act o.dst s2).obj q=(s2.objput post).obj q:=fun res post q=>Z6.obj_put _ _ _ _
 have hobjk:((mkSp s o keys news res post).act o.dst s2).obj k=some (.row sz el es):=by
  rw[hact];show(look (post++s2.objs) k).getD none=_;rw[Z3p,hk];rfl
 have hO:=hr.inv.objs k _ hobjk
 let I':Nat→Prop:=fun b=>I b∨∃ ki,κ k=some ki∧ki.b=b
 have hI:∀ b,I b→I' b:=fun b h=>.inl h
 have hold:∀ k' q,((mkSp s o keys news (pass (ids.map fun q=>(q,q)) [(k,es)] res) ((k,none)::post)).act o.dst s2).obj k'=some q→k'≠k∧((mkSp s o keys news res post).act o.dst s2).obj k'=some q:=by
  intro k' q hq;rw[hact] at hq ⊢;change (look ((k,none)::(post++s2.objs)) k').getD none=_ at hq;change _∧(look (post++s2.objs) k').getD none=_;rw[Z19] at hq;by_cases e:k=k'
  ·rw[if_pos e] at hq;simp at hq
  ·rw[if_neg e] at hq;exact⟨fun h=>e h.symm,hq⟩
 have hnot:∀ k' q ki ki',k'≠k→((mkSp s o keys news res post).act o.dst s2).obj k'=some q→κ k'=some ki'→κ k=some ki→ki'.b≠ki.b:=by
  intro k' q ki ki' hne hq e1 e2 hb;exact hne (hr.inv.inj k' k q _ ki' ki hq hobjk e1 e2 hb)
 refine⟨κ,I',hr.size,hr.defers,fun x => ?_,?_,?_,?_,?_,hr.inv.keep,fun b h=>.inl (hr.inv.ikeep b h),?_,?_,?_⟩
 ·have g:=hr.slots x
  revert g;simp only[Sp.act,mkSp];cases o.dst with
  | none=>exact fun g=>g.mono hI (fun _ _=>rfl) (fun _ _=>rfl)
  | some d =>
   rw[Z6.get_put,Z6.get_put];by_cases e:d=x
   ·rw[if_pos e,if_pos e]
    intro g;exact Z2b (I':=I') (κc:=κ) (inv:=ids.map fun q=>(q,q)) (views:=[(k,es)]) hI (by
     intro a b h;obtain⟨p,hp,e⟩:=List.mem_map.1 (Z1e h);simp at e;obtain⟨rfl,rfl⟩:=e;rfl) (fun k' es' h=>by
     rw[Z19] at h;split at h
     ·rename_i e';subst e';simp at h;subst h
      exact⟨⟨sz,el,hO⟩,fun ki e=>.inr ⟨ki,e,rfl⟩⟩
     ·simp[look] at h) g
   ·rw[if_neg e,if_neg e]
    exact fun g=>g.mono hI (fun _ _=>rfl) (fun _ _=>rfl)
 ·intro k' q hq
  obtain⟨hne,hq⟩:=hold k' q hq;have:=hr.inv.objs k' q hq;unfold OAt at this ⊢;cases e:κ k' with
  | none=>rw[e] at this;exact this
  | some ki=>rw[e] at this;exact this.mono hI (fun _ _=>rfl) rfl (fun _ _=>rfl)
 ·intro q1 q2 o1 o2 ki1 ki2 h1 h2 f1 f2 hb
  exact hr.inv.inj q1 q2 o1 o2 ki1 ki2 (hold q1 o1 h1).2 (hold q2 o2 h2).2 f1 f2 hb
 ·intro q o' ki hq f hIb
  obtain⟨hne,hq⟩:=hold q o' hq;rcases hIb with hIb | ⟨ki',e1,e2⟩
  ·exact hr.inv.disj q o' ki hq f hIb
  ·exact hnot q o' ki' ki hne hq f e1 e2.symm
 ·intro b hIb
  rcases hIb with hIb | ⟨ki,e1,rfl⟩
  ·exact hr.inv.bound b hIb
  ·have:=hO
   simp only[OAt,e1] at this;obtain⟨_,_,_,arr,h3,_⟩:=this;exact(Array.getElem?_eq_some_iff.1 h3).1
 ·intro b hIb
  rcases hIb with hIb | ⟨ki,e1,rfl⟩
  ·exact hr.inv.fromI b hIb
  ·rcases hr.inv.fromO k _ ki hobjk e1 with h | h
   ·exact .inr (.inl h)
   ·exact .inr (.inr h)
 ·intro q o' ki hq f
  exact hr.inv.fromO q o' ki (hold q o' hq).2 f
 ·intro q hq
  refine hr.inv.fix q ?_;have e1:((mkSp s o keys news (pass (ids.map fun q=>(q,q)) [(k,es)] res) ((k,none)::post)).act o.dst s2).floor=s2.floor:=by cases o.dst<;>rfl
  have e2:((mkSp s o keys news res post).act o.dst s2).floor=s2.floor:=by cases o.dst<;>rfl
  rw[e1] at hq;rw[e2];exact hq
def xFzG (k:Nat) (ids:List Nat) (h:Hint):Ext where
 f P o s:=match Zbo    P h o s with
  | some e=>match look e.post k with
   | some (some (.row sz el es))=>some ⟨e.keys,e.news,pass (ids.map fun q=>(q,q)) [(k,es)] e.res,(k,none)::e.post,e.props⟩
   | _=>none
  | none=>none
 ok P o s e he hp:=by
  split at he
  ·rename_i e0 h0
   split at he
   ·rename_i sz el es hl
    obtain rfl:=Option.some.inj he;exact(Z8a h0 hp).frozenG hl
   ·simp at he
  ·simp at he
end Go.Pv
