import Derived.Test.YtpoihfcehejgfaaPxBlockGrids04
set_option linter.unusedVariables false
set_option linter.unusedSimpArgs false
namespace Go.Pv
structure Bun where
 v:Value
 h:AVal
 objs:List (Nat×MObj)
def BunAt (w:World) (I:Nat→Prop) (b:Bun) (B:List Nat):Prop :=
 ∃ κ:Nat→Option KI,Rep w I κ b.h b.v∧(∀ k o,look b.objs k=some o→OAt w I κ k o) ∧
  (∀ k k' o o' ki ki',look b.objs k=some o→look b.objs k'=some o'→κ k=some ki→κ k'=some ki'→ki.b=ki'.b→k=k') ∧
  ∀ k o ki,look b.objs k=some o→κ k=some ki→ki.b∈B
theorem OAt.mono' {w w':World} {I I':Nat→Prop} {κ:Nat→Option KI} {k:Nat} {o:MObj} (h:OAt w I κ k o) (hI:∀ b,I b→I' b) (hw:∀ b,I b→w'.heap[b]? = w.heap[b]?) (hb:∀ ki,κ k=some ki→w'.heap[ki.b]? = w.heap[ki.b]?):OAt w' I' κ k o:=by
 unfold OAt at h ⊢;cases e:κ k with
 | none=>rw[e] at h;exact h
 | some ki=>rw[e] at h;exact h.mono hI hw (hb ki e) (fun _ _=>rfl)
theorem BunAt.mono {w w':World} {I I':Nat→Prop} {b:Bun} {B:List Nat} (h:BunAt w I b B) (hB:∀ b∈B,w'.heap[b]? = w.heap[b]?) (hI:∀ b,I b→I' b) (hw:∀ b,I b→w'.heap[b]? = w.heap[b]?):BunAt w' I' b B:=by
 obtain⟨κ,h1,h2,h3,h4⟩:=h;exact⟨κ,h1.mono hI hw (fun _ _=>rfl),fun k o e=>(h2 k o e).mono' hI hw (fun ki ek=>hB _ (h4 k o ki e ek)),h3,h4⟩
def bag (bs:List Bun) (Bs:List (List Nat)):Gh where
 B:=Bs.flatten
 G w I:=bs.length=Bs.length∧Bs.flatten.Nodup∧∀ i (h1:i<bs.length) (h2:i<Bs.length),BunAt w I bs[i] Bs[i]
 mono w w' I I' hB hI hw h:=⟨h.1,h.2.1,fun i h1 h2=>(h.2.2 i h1 h2).mono (fun b hb=>hB b (List.mem_flatten.2 ⟨_,List.getElem_mem h2,hb⟩)) hI hw⟩
def Z37 (s:Z1) (F x:Nat) (b:Bun):Z1 := { slots:=(x,b.h)::s.slots,objs:=b.objs.map (fun p=>(p.1,some p.2))++s.objs,floor:=F }
def sansB (s:Z1) (fl:Nat) (KB:List Nat):Z1 := { slots:=s.slots,objs:=KB.map (fun k=>(k,none))++s.objs,floor:=fl }
theorem look_sans (KB:List Nat) (k:Nat):look (KB.map (fun k=>(k,(none:Option MObj)))) k=if k∈KB then some none else none:=by
 induction KB with
 | nil=>simp[look]
 | cons a r ih =>
  rw[List.map_cons,Zr,ih];by_cases e:a=k
  ·simp[e]
  ·have e':¬ k=a:=fun q=>e q.symm
   simp[e,e']
theorem obj_sans (s:Z1) (fl:Nat) (KB:List Nat) (k:Nat):(sansB s fl KB).obj k=if k∈KB then none else s.obj k:=by
 show(look (KB.map (fun k=>(k,(none:Option MObj)))++s.objs) k).getD none=_;rw[Z1c,look_sans];by_cases e:k∈KB
 ·simp[e]
 ·simp[e];rfl
theorem look_some (l:List (Nat×MObj)) (k:Nat):look (l.map (fun p=>(p.1,some p.2))) k=(look l k).map some:=by
 induction l with
 | nil=>rfl
 | cons p l ih =>
  obtain⟨a,o⟩:=p;rw[List.map_cons,Zr,Zr,ih];by_cases e:a=k<;>simp[e]
theorem obj_with (s:Z1) (F x:Nat) (b:Bun) (k:Nat):(Z37 s F x b).obj k=match look b.objs k with
  | some o=>some o
  | none=>s.obj k:=by
 show(look (b.objs.map (fun p=>(p.1,some p.2))++s.objs) k).getD none=_;rw[Z1c,look_some];cases look b.objs k<;>rfl
theorem Z3x {Bs:List (List Nat)} (hn:Bs.flatten.Nodup) {i:Nat} (hi:i<Bs.length) {b:Nat} (hb:b∈(Bs.set i []).flatten):b∈Bs.flatten∧b ∉ Bs[i]:=by
 refine⟨?_,fun h=>(flat_nil hi hn).2 b h hb⟩;rcases flat_set_mem hb with h | h
 ·exact h
 ·cases h
theorem flat_put {Bs:List (List Nat)} {i:Nat} (hi:i<Bs.length) (hn:Bs.flatten.Nodup) {B':List Nat} (h1:B'.Nodup) (h2:∀ b∈B',b ∉ (Bs.set i []).flatten):(Bs.set i B').flatten.Nodup:=by
 obtain⟨n1,_⟩:=flat_nil hi hn;have e1:=(Z2j Bs i hi B').2;have e2:=(Z2j Bs i hi []).2;rw[e2] at n1 h2;rw[e1];simp only[List.flatten_append,List.flatten_cons,List.nil_append] at n1 h2 ⊢;rw[List.nodup_append] at n1 ⊢;obtain⟨a1,a2,a3⟩:=n1;refine⟨a1,List.nodup_append.2 ⟨h1,a2,fun a ha b hb e=>h2 a ha (List.mem_append_right _ (e ▸ hb))⟩,fun a ha b hb => ?_⟩;rcases List.mem_append.1 hb with hb | hb
 ·exact fun e=>h2 b hb (List.mem_append_left _ (e ▸ ha))
 ·exact a3 a ha b hb
def Z1s (κ:Nat→Option KI) (s:Z1):List Nat→List Nat
 | []=>[]
 | k::r=>match s.obj k,κ k with
  | some _,some ki=>ki.b::Z1s κ s r
  | _,_=>Z1s κ s r
theorem Z17 {κ:Nat→Option KI} {s:Z1}:∀ {KB:List Nat} {b:Nat},b∈Z1s κ s KB↔∃ k∈KB,∃ o ki,s.obj k=some o∧κ k=some ki∧ki.b=b
 | [],b=>by simp[Z1s]
 | k::r,b=>by
  have ih:=@Z17 κ s r b;rw[Z1s];cases e1:s.obj k with
  | none =>
   simp only[List.mem_cons,exists_eq_or_imp,e1];rw[ih];simp
  | some o =>
   cases e2:κ k with
   | none=>simp only[List.mem_cons,exists_eq_or_imp,e1,e2];rw[ih];simp
   | some ki =>
    simp only[List.mem_cons,exists_eq_or_imp,e1,e2];rw[ih];constructor
    ·rintro(h | h)
     ·exact .inl ⟨o,ki,rfl,rfl,h.symm⟩
     ·exact .inr h
    ·rintro(⟨o',ki',q1,q2,q3⟩ | h)
     ·cases q2;exact .inl q3.symm
     ·exact .inr h
theorem Z26 {κ:Nat→Option KI} {s:Z1} (hinj:∀ k k' o o' ki ki',s.obj k=some o→s.obj k'=some o'→κ k=some ki→κ k'=some ki'→ki.b=ki'.b→k=k'):∀ {KB:List Nat},KB.Nodup→(Z1s κ s KB).Nodup
 | [],_=>List.nodup_nil
 | k::r,h=>by
  obtain⟨h1,h2⟩:=List.nodup_cons.1 h;have ih:=Z26 hinj h2;rw[Z1s];split
  ·rename_i o ki e1 e2
   refine List.nodup_cons.2 ⟨fun hm => ?_,ih⟩;obtain⟨k',hk',o',ki',q1,q2,q3⟩:=Z17.1 hm;exact h1 (hinj k k' o o' ki ki' e1 q1 e2 q2 q3.symm ▸ hk')
  ·exact ih
theorem GWp.open {Γ:Ctx} {c:Code} {Q:Exit→Z1→Gh→Prop} {s:Z1} {bs:List Bun} {Bs:List (List Nat)} (KB:List Nat) (F i x:Nat) (b:Bun) (hb:bs[i]? = some b) (hx:s.get x = .im (.sc b.v)) (hKn:KB.Nodup)
  (hk:∀ k o,look b.objs k=some o→k∈KB) (hfr:∀ k∈KB,s.fresh k) (hob:∀ k o q,look b.objs k=some o→o.has q=true→q∈KB) (hh:∀ q,b.h.has q=true→q∈KB∧q<F) (hF:s.floor≤F)
  (h:∀ Γ':Ctx,Γ'.P=Γ.P→Γ'.n=Γ.n→AWp Γ' c (fun e s'=>s'.floor=F∧∃ objs':List (Nat×MObj),(∀ k o,look objs' k=some o→k∈KB∧s'.obj k=some o)∧∀ B',Q e (sansB s' s.floor KB) (bag (bs.set i ⟨b.v,b.h,objs'⟩) (Bs.set i B'))) (Z37 s F x b)):GWp Γ c Q s (bag bs Bs):=by
 rintro a w ⟨κ,I,hr,hg⟩;obtain⟨hl,hnd,hat⟩:=hg.holds;obtain⟨hi,rfl⟩:=List.getElem?_eq_some_iff.1 hb;have hiB:i<Bs.length:=hl ▸ hi;obtain⟨κb,b1,b2,b3,b4⟩:=hat i hi hiB;have hin:∀ q,q∈Bs[i]→q∈(bag bs Bs).B:=fun q hq=>List.mem_flatten.2 ⟨_,List.getElem_mem hiB,hq⟩
 let κ2:Nat→Option KI:=fun k=>if k∈KB then κb k else κ k
 have k2in:∀ k,k∈KB→κ2 k=κb k:=fun k h=>if_pos h
 have k2out:∀ k,k ∉ KB→κ2 k=κ k:=fun k h=>if_neg h
 have hmain:∀ k o,s.obj k=some o→k ∉ KB:=fun k o e hin=>by rw[(hfr k hin).2.2.1] at e;cases e
 have hob2:∀ k o,(Z37 s F x bs[i]).obj k=some o→(look bs[i].objs k=some o∧k∈KB)∨(k ∉ KB∧s.obj k=some o):=fun k o e=>by
  rw[obj_with] at e;cases e1:look bs[i].objs k with
  | some o'=>rw[e1] at e;obtain rfl:=Option.some.inj e;exact .inl ⟨rfl,hk k _ e1⟩
  | none=>rw[e1] at e;exact .inr ⟨hmain k o e,e⟩
 have objs2:∀ k o,(Z37 s F x bs[i]).obj k=some o→OAt w I κ2 k o:=fun k o e=>by
  rcases hob2 k o e with ⟨e1,e2⟩ | ⟨e1,e2⟩
  ·have h0:=b2 k o e1
   unfold OAt at h0 ⊢;rw[k2in k e2];cases e3:κb k with
   | none=>rw[e3] at h0;exact h0
   | some ki=>rw[e3] at h0;exact h0.mono (fun _ h=>h) (fun _ _=>rfl) rfl (fun q hq=>k2in q (hob k o q e1 hq))
  ·have h0:=hr.inv.objs k o e2
   unfold OAt at h0 ⊢;rw[k2out k e1];cases e3:κ k with
   | none=>rw[e3] at h0;exact h0
   | some ki=>rw[e3] at h0;exact h0.mono (fun _ h=>h) (fun _ _=>rfl) rfl (fun q hq=>k2out q (fun hin=>by rw[(hfr q hin).2.1 k o e2] at hq;cases hq))
 have inj2:∀ k k' o o' ki ki',(Z37 s F x bs[i]).obj k=some o→(Z37 s F x bs[i]).obj k'=some o'→κ2 k=some ki→κ2 k'=some ki'→ki.b=ki'.b→k=k':=by
  intro k k' o o' ki ki' e e' f f' hbb;rcases hob2 k o e with ⟨e1,e2⟩ | ⟨e1,e2⟩<;>rcases hob2 k' o' e' with ⟨g1,g2⟩ | ⟨g1,g2⟩
  ·rw[k2in k e2] at f;rw[k2in k' g2] at f';exact b3 k k' o o' ki ki' e1 g1 f f' hbb
  ·rw[k2in k e2] at f;rw[k2out k' g1] at f'
   exact absurd hbb.symm (hg.obj _ (hin _ (b4 k o ki e1 f)) k' o' ki' g2 f')
  ·rw[k2out k e1] at f;rw[k2in k' g2] at f'
   exact absurd hbb (hg.obj _ (hin _ (b4 k' o' ki' g1 f')) k o ki e2 f)
  ·rw[k2out k e1] at f;rw[k2out k' g1] at f';exact hr.inv.inj k k' o o' ki ki' e2 g2 f f' hbb
 have disj2:∀ k o ki,(Z37 s F x bs[i]).obj k=some o→κ2 k=some ki→¬ I ki.b:=by
  intro k o ki e f;rcases hob2 k o e with ⟨e1,e2⟩ | ⟨e1,e2⟩
  ·rw[k2in k e2] at f;exact hg.dis _ (hin _ (b4 k o ki e1 f))
  ·rw[k2out k e1] at f;exact hr.inv.disj k o ki e2 f
 have hdis:∀ q,I q→¬ Z1k κ2 (Z37 s F x bs[i]) q:=fun q hq ⟨k,o,ki,h1,h2,h3⟩=>disj2 k o ki h1 h2 (h3 ▸ hq)
 have glob:Z5b Γ.P I (Z1k κ2 (Z37 s F x bs[i])) w:=fun g cs e=>by
  obtain⟨h1,h2,h3⟩:=hr.inv.tab e;exact⟨h1,hdis g h1,h2,h3⟩
 let Γ':Ctx := { P:=Γ.P,n:=Γ.n,w0:=w,I0:=I,M0:=Z1k κ2 (Z37 s F x bs[i]),κ0:=κ2,glob:=glob }
 have hslots:∀ y,Rep w I κ2 ((Z37 s F x bs[i]).get y) (a.tmps.getD y undef):=fun y=>by
  show Rep w I κ2 ((look ((x,bs[i].h)::s.slots) y).getD .top) _;rw[Zr];by_cases e:x=y
  ·subst e
   rw[if_pos rfl];have hv:=hr.slots x;rw[hx] at hv;rw[hv.sc_inv];exact b1.mono (fun _ h=>h) (fun _ _=>rfl) (fun q hq=>k2in q (hh q hq).1)
  ·rw[if_neg e]
   exact(hr.slots y).mono (fun _ h=>h) (fun _ _=>rfl) (fun q hq=>k2out q (fun hin=>by
    have:=(hfr q hin).1 y;rw[this] at hq;cases hq))
 have sat:Sat Γ' (Z37 s F x bs[i]) a w:=⟨κ2,I,hr.size,hr.defers,hslots,objs2,inj2,disj2,hr.inv.bound,Z3t.refl _ _,fun _ h=>h,fun q h=>.inl h,fun k o ki h1 h2=>.inl ⟨k,o,ki,h1,h2,rfl⟩,fun k hk=>rfl⟩
 refine Code.wp_mono (fun e a' w' ⟨s',h1,hfl,objs',ho',hq⟩ => ?_) (h Γ' rfl rfl a w sat);obtain⟨κ',I',r'⟩:=h1;have hsz:w.heap.size≤w'.heap.size:=r'.inv.keep.size;have fromM:∀ q,Z1k κ2 (Z37 s F x bs[i]) q→Γ.M0 q∨Γ.w0.heap.size≤q:=fun q ⟨k,o,ki,h1,h2,h3⟩=>by
  rcases hob2 k o h1 with ⟨e1,e2⟩ | ⟨e1,e2⟩
  ·rw[k2in k e2] at h2;exact h3 ▸ hg.new _ (hin _ (b4 k o ki e1 h2))
  ·rw[k2out k e1] at h2;exact h3 ▸ hr.inv.fromO k o ki e2 h2
 have old:∀ q,q<w.heap.size→¬ Z1k κ2 (Z37 s F x bs[i]) q→w'.heap[q]? = w.heap[q]? := fun q hq hn=>r'.inv.keep.block q hq hn
 have fromO':∀ k o ki,s'.obj k=some o→κ' k=some ki→Γ.M0 ki.b∨Γ.w0.heap.size≤ki.b:=fun k o ki h1 h2=>by
  rcases r'.inv.fromO k o ki h1 h2 with h | h
  ·exact fromM _ h
  ·exact .inr (Nat.le_trans hr.inv.keep.size h)
 have others:∀ q,q∈(Bs.set i []).flatten→q<w.heap.size∧¬ Z1k κ2 (Z37 s F x bs[i]) q:=fun q hq=>by
  obtain⟨m1,m2⟩:=Z3x hnd hiB hq;refine⟨hg.size q m1,fun⟨k,o,ki,h1,h2,h3⟩ => ?_⟩;rcases hob2 k o h1 with ⟨e1,e2⟩ | ⟨e1,e2⟩
  ·rw[k2in k e2] at h2;exact m2 (h3 ▸ b4 k o ki e1 h2)
  ·rw[k2out k e1] at h2;exact hg.obj q m1 k o ki e2 h2 h3
 have apart':∀ q,q∈(Bs.set i []).flatten→∀ k o ki,s'.obj k=some o→κ' k=some ki→ki.b≠q:=fun q hq k o ki h1 h2 e=>by
  obtain⟨m1,m2⟩:=others q hq;rcases r'.inv.fromO k o ki h1 h2 with h | h
  ·exact m2 (e ▸ h)
  ·rw[e] at h;exact absurd m1 (Nat.not_lt.2 h)
 let B':List Nat:=Z1s κ' s' KB
 have hB':∀ q,q∈B'→∃ k∈KB,∃ o ki,s'.obj k=some o∧κ' k=some ki∧ki.b=q:=fun q hq=>Z17.1 hq
 have hsans:∀ k o,(sansB s' s.floor KB).obj k=some o→k ∉ KB∧s'.obj k=some o:=fun k o e=>by
  rw[obj_sans] at e;by_cases hin:k∈KB
  ·rw[if_pos hin] at e;cases e
  ·rw[if_neg hin] at e;exact⟨hin,e⟩
 have mem':∀ q,q∈(Bs.set i B').flatten→q∈(Bs.set i []).flatten∨q∈B':=fun q hq=>by
  have e1:=(Z2j Bs i hiB B').2;have e2:=(Z2j Bs i hiB []).2;rw[e1] at hq;rw[e2];simp only[List.flatten_append,List.flatten_cons,List.nil_append,List.mem_append] at hq ⊢;rcases hq with h | h | h
  ·exact .inl (.inl h)
  ·exact .inr h
  ·exact .inl (.inr h)
 refine⟨sansB s' s.floor KB,bag (bs.set i ⟨bs[i].v,bs[i].h,objs'⟩) (Bs.set i B'),⟨κ',I',⟨r'.size,r'.defers,r'.slots,⟨fun k o e=>r'.inv.objs k o (hsans k o e).2,fun k k' o o' ki ki' e e'=>r'.inv.inj k k' o o' ki ki' (hsans k o e).2 (hsans k' o' e').2,fun k o ki e=>r'.inv.disj k o ki (hsans k o e).2,r'.inv.bound,?_,?_,?_,fun k o ki e f=>fromO' k o ki (hsans k o e).2 f,?_⟩⟩,?_,?_,?_,?_,?_⟩,hq B'⟩
 ·exact hr.inv.keep.trans r'.inv.keep (fun q hq hm=>(fromM q hm).resolve_right (fun h=>absurd hq (Nat.not_lt.2 h)))
 ·exact fun q hq=>r'.inv.ikeep q (hr.inv.ikeep q hq)
 ·intro q hq
  rcases r'.inv.fromI q hq with h | h | h
  ·exact hr.inv.fromI q h
  ·exact .inr (fromM q h)
  ·exact .inr (.inr (Nat.le_trans hr.inv.keep.size h))
 ·intro k hk'
  have hk':k<s.floor:=hk';have hnin:k ∉ KB:=fun hin=>absurd (hfr k hin).2.2.2 (Nat.not_le.2 hk');have:=r'.inv.fix k (by rw[hfl];omega);rw[this];show κ2 k=_;rw[k2out k hnin];exact hr.inv.fix k hk'
 ·refine⟨by simp[hl],flat_put hiB hnd (Z26            r'.inv.inj hKn) (fun q hq hc => ?_),fun j h1 h2 => ?_⟩
  ·obtain⟨k,_,o,ki,q1,q2,q3⟩:=hB' q hq
   exact apart' q hc k o ki q1 q2 q3
  ·by_cases e:i=j
   ·subst e
    rw[List.getElem_set_self,List.getElem_set_self];refine⟨κ',?_,fun k o e => ?_,fun k k' o o' ki ki' e e'=>r'.inv.inj k k' o o' ki ki' (ho' k o e).2 (ho' k' o' e').2,fun k o ki e f=>Z17.2 ⟨k,(ho' k o e).1,o,ki,(ho' k o e).2,f,rfl⟩⟩
    ·refine Rep.mono (I:=I) (w:=w) (κ:=κ2) ?_ (fun q hq=>r'.inv.ikeep q hq) (fun q hq=>old q (hr.inv.bound q hq) (hdis q hq)) (fun q hq=>r'.inv.fix q (by rw[hfl];exact(hh q hq).2))
     exact b1.mono (fun _ h=>h) (fun _ _=>rfl) (fun q hq=>k2in q (hh q hq).1)
    ·exact r'.inv.objs k o (ho' k o e).2
   ·rw[List.getElem_set_ne e,List.getElem_set_ne e]
    refine(hat j (by simpa using h1) (by simpa using h2)).mono (fun q hq => ?_) (fun q hq=>r'.inv.ikeep q hq) (fun q hq=>old q (hr.inv.bound q hq) (hdis q hq));have hm:q∈(Bs.set i []).flatten:=List.mem_flatten.2 ⟨(Bs.set i [])[j]'(by simpa using h2),List.getElem_mem _,by rw[List.getElem_set_ne e];exact hq⟩;exact old q (others q hm).1 (others q hm).2
 ·intro q hq
  rcases mem' q hq with h | h
  ·exact Nat.lt_of_lt_of_le (others q h).1 hsz
  ·obtain⟨k,_,o,ki,q1,q2,rfl⟩:=hB' q h
   have h0:=r'.inv.objs k o q1;unfold OAt at h0;rw[q2] at h0;exact h0.lt
 ·intro q hq hI
  rcases mem' q hq with h | h
  ·rcases r'.inv.fromI q hI with g | g | g
   ·exact hg.dis q (Z3x hnd hiB h).1 g
   ·exact(others q h).2 g
   ·exact absurd (others q h).1 (Nat.not_lt.2 g)
  ·obtain⟨k,_,o,ki,q1,q2,rfl⟩:=hB' q h
   exact r'.inv.disj k o ki q1 q2 hI
 ·intro q hq k o ki e f
  obtain⟨n1,e⟩:=hsans k o e;rcases mem' q hq with h | h
  ·exact apart' q h k o ki e f
  ·obtain⟨k',hk',o',ki',q1,q2,rfl⟩:=hB' q h
   exact fun hbb=>n1 (r'.inv.inj k k' o o' ki ki' e q1 f q2 hbb ▸ hk')
 ·intro q hq
  rcases mem' q hq with h | h
  ·exact hg.new q (Z3x hnd hiB h).1
  ·obtain⟨k,_,o,ki,q1,q2,rfl⟩:=hB' q h
   exact fromO' k o ki q1 q2
theorem GWp.newB {Γ:Ctx} {c:Code} {Q:Exit→Z1→Gh→Prop} {s:Z1} {bs:List Bun} {Bs:List (List Nat)} (KB:List Nat) (x:Nat) (h:AVal) (objs:List (Nat×MObj)) (hx:s.get x=h) (hKn:KB.Nodup)
  (ho:∀ k o,look objs k=some o→k∈KB∧s.obj k=some o)
  (H:∀ v B',GWp Γ c Q ⟨(x,.im (.sc v))::s.slots,(sansB s s.floor KB).objs,s.floor⟩ (bag (bs++[⟨v,h,objs⟩]) (Bs++[B']))):GWp Γ c Q s (bag bs Bs):=by
 rintro a w ⟨κ,I,hr,hg⟩;obtain⟨hl,hnd,hat⟩:=hg.holds
 let v:Value:=a.tmps.getD x undef
 let B':List Nat:=Z1s κ s KB
 have hB':∀ q,q∈B'→∃ k∈KB,∃ o ki,s.obj k=some o∧κ k=some ki∧ki.b=q:=fun q hq=>Z17.1 hq
 have hsans:∀ k o,(⟨(x,.im (.sc v))::s.slots,(sansB s s.floor KB).objs,s.floor⟩:Z1).obj k=some o→k ∉ KB∧s.obj k=some o:=fun k o e=>by
  have e:(sansB s s.floor KB).obj k=some o:=e;rw[obj_sans] at e;by_cases hin:k∈KB
  ·rw[if_pos hin] at e;cases e
  ·rw[if_neg hin] at e;exact⟨hin,e⟩
 have hfl:∀ q,q∈(Bs++[B']).flatten↔q∈Bs.flatten∨q∈B':=fun q=>by simp
 refine H v B' a w ⟨κ,I,⟨hr.size,hr.defers,fun y => ?_,fun k o e=>hr.inv.objs k o (hsans k o e).2,fun k k' o o' ki ki' e e'=>hr.inv.inj k k' o o' ki ki' (hsans k o e).2 (hsans k' o' e').2,fun k o ki e=>hr.inv.disj k o ki (hsans k o e).2,hr.inv.bound,hr.inv.keep,hr.inv.ikeep,hr.inv.fromI,fun k o ki e=>hr.inv.fromO k o ki (hsans k o e).2,hr.inv.fix⟩,?_,?_,?_,?_,?_⟩
 ·show Rep w I κ ((look ((x,AVal.im (.sc v))::s.slots) y).getD .top) _
  rw[Zr];by_cases e:x=y
  ·subst e;rw[if_pos rfl];exact .im (.sc _)
  ·rw[if_neg e];exact hr.slots y
 ·refine⟨by simp[hl],?_,fun j h1 h2 => ?_⟩
  ·rw[List.flatten_append]
   refine List.nodup_append.2 ⟨hnd,by simpa using Z26 hr.inv.inj hKn,fun q hq q' hq' e => ?_⟩;obtain⟨k,_,o,ki,q1,q2,q3⟩:=hB' q' (by simpa using hq');exact hg.obj q hq k o ki q1 q2 (q3.trans e.symm)
  ·by_cases hj:j<bs.length
   ·rw[List.getElem_append_left hj,List.getElem_append_left (by omega)]
    exact hat j hj (by omega)
   ·have hj':j=bs.length:=by simp at h1;omega
    subst hj';have e1:(bs++[⟨v,h,objs⟩])[bs.length]=⟨v,h,objs⟩:=by simp
    have e2:(Bs++[B'])[bs.length]=B':=by simp[hl]
    rw[e1,e2];refine⟨κ,?_,fun k o e=>hr.inv.objs k o (ho k o e).2,fun k k' o o' ki ki' e e'=>hr.inv.inj k k' o o' ki ki' (ho k o e).2 (ho k' o' e').2,fun k o ki e f=>Z17.2 ⟨k,(ho k o e).1,o,ki,(ho k o e).2,f,rfl⟩⟩;have:=hr.slots x;rw[hx] at this;exact this
 ·intro q hq
  rcases(hfl q).1 hq with h | h
  ·exact hg.size q h
  ·obtain⟨k,_,o,ki,q1,q2,rfl⟩:=hB' q h
   have h0:=hr.inv.objs k o q1;unfold OAt at h0;rw[q2] at h0;exact h0.lt
 ·intro q hq
  rcases(hfl q).1 hq with h | h
  ·exact hg.dis q h
  ·obtain⟨k,_,o,ki,q1,q2,rfl⟩:=hB' q h
   exact hr.inv.disj k o ki q1 q2
 ·intro q hq k o ki e f
  obtain⟨n1,e⟩:=hsans k o e;rcases(hfl q).1 hq with h | h
  ·exact hg.obj q h k o ki e f
  ·obtain⟨k',hk',o',ki',q1,q2,rfl⟩:=hB' q h
   exact fun hbb=>n1 (hr.inv.inj k k' o o' ki ki' e q1 f q2 hbb ▸ hk')
 ·intro q hq
  rcases(hfl q).1 hq with h | h
  ·exact hg.new q h
  ·obtain⟨k,_,o,ki,q1,q2,rfl⟩:=hB' q h
   exact hr.inv.fromO k o ki q1 q2
theorem bag_ptr {Γ:Ctx} {s:Z1} {bs:List Bun} {Bs:List (List Nat)} {i k e j:Nat} {b:Bun} (hb:bs[i]? = some b) (hh:b.h = .ptr k e j) (a:Act) (w:World) (h:GSat Γ s (bag bs Bs) a w):∃ ad,b.v = .pointer (some ad):=by
 obtain⟨κ,I,hr,hg⟩:=h;obtain⟨hl,_,hat⟩:=hg.holds;obtain⟨hi,rfl⟩:=List.getElem?_eq_some_iff.1 hb;obtain⟨κb,b1,_⟩:=hat i hi (by omega);rw[hh] at b1;generalize bs[i].v=v at b1;cases b1 with
 | ptr e=>exact⟨_,rfl⟩
theorem AWp.bag0 {Γ:Ctx} {c:Code} {Q:Exit→Z1→Prop} {s:Z1} (h:GWp Γ c (fun e s' _=>Q e s') s (bag [] [])):AWp Γ c Q s:=by
 rintro a w ⟨κ,I,hr⟩;refine Code.wp_mono (fun e a' w' ⟨s',g',⟨κ',I',r',_⟩,hq⟩=>⟨s',⟨κ',I',r'⟩,hq⟩) (h a w ⟨κ,I,hr,⟨⟨rfl,List.nodup_nil,fun i h=>absurd h (Nat.not_lt_zero _)⟩,?_,?_,?_,?_⟩⟩)<;>(intro b hb;cases hb)
theorem run_eql_ptr {P:Program} {t e:TypeId} (ht:P.underlying t=some (.pointer e)) (p:Option Addr) (w:World):(binOp .eql t (.pointer p) (.pointer none)).run P w = .ok (.bool p.isNone) w:=by
 have h:(Op.equal t (.pointer p) (.pointer none)).run P w = .ok p.isNone w:=by
  unfold Op.equal Op.maxDepth;rw[Op.equalIn];cases p<;>simp only[Sem.run_bind,Zf ht,Result.andThen_ok,Sem.run_pure]<;>rfl
 show(do pure (.bool (← Op.equal t (.pointer p) (.pointer none))):Sem Value).run P w=_;rw[Sem.run_bind,h];rfl
def xPNil:Ext where
 f P o s:=match o.op with
  | .binOp .eql t x (.const (.pointer none)) _=>match P.underlying t,s.eval x with
   | some (.pointer _),.im (.sc (.pointer p))=>some ⟨[],[],.im (.sc (.bool p.isNone)),[],[]⟩
   | _,_=>none
  | _=>none
 ok P o s e he hp:=by
  split at he
  ·rename_i t x _ ho
   split at he
   ·rename_i el p ht hx
    obtain rfl:=Option.some.inj he;refine .quiet rfl fun Γ κ I s2 a w hP hrel hn => ?_;have g:=opd hrel hn x (by simp[ho,Op.operands]) rfl;rw[hx] at g;have e:=g.sc_inv;refine⟨.bool p.isNone,?_,.im (.sc _)⟩;have hc:a.eval (.const (.pointer none)) = .pointer none:=rfl;simp only[execOp,ho,e,hc,eqGuard];simp[run_eql_ptr ht]
   ·simp at he
  ·simp at he
theorem Z1u {Γ:Ctx} {s:Z1} {g:Gh} (live keeps:List Nat):GCv Γ s g (Z13 live keeps s) g:=by
 rintro a w ⟨κ,I,hr,hg⟩;have hs:∀ x,(Z13 live keeps s).get x = .top∨(Z13 live keeps s).get x=s.get x:=fun x=>by
  simp only[Z1.get,Z13];cases e:look (live.map fun i=>(i,(look s.slots i).getD .top)) x with
  | none=>left;rfl
  | some v=>right;rw[Z4j (fun i=>(look s.slots i).getD .top) live x v e];rfl
 have ho:∀ k o,(Z13 live keeps s).obj k=some o→s.obj k=some o:=fun k o hk=>by
  simp only[Z1.obj,Z13] at hk;cases e:look (keeps.map fun k=>(k,(look s.objs k).getD none)) k with
  | none=>rw[e] at hk;simp at hk
  | some v=>rw[e] at hk;have:=Z4j (fun i=>(look s.objs i).getD none) keeps k v e;subst this;exact hk
 refine⟨κ,I,⟨hr.size,hr.defers,fun x => ?_,hr.inv.eqv ho rfl⟩,hg.holds,hg.size,hg.dis,fun b hb k o ki e=>hg.obj b hb k o ki (ho k o e),hg.new⟩;rcases hs x with e | e<;>rw[e]
 ·exact .top _
 ·exact hr.slots x
section
variable {K B:Type}
abbrev QL (K B:Type):=List ((K×B)×Value)
def qS (q:QL K B):List (K×B):=q.map (·.1)
def qM (q:QL K B):List (K×Value):=q.map fun y=>(y.1.1,y.2)
def qB (h:AVal) (f:B→List (Nat×MObj)) (q:QL K B):List Bun:=q.map fun y=>⟨y.2,h,f y.1.2⟩
theorem q_get [DecidableEq K] (lo:K):∀ q:QL K B,(mget (qS q) lo=none∧mget (qM q) lo=none∧∀ bk v,mput (qS q) lo bk=qS (q++[((lo,bk),v)])∧mput (qM q) lo v=qM (q++[((lo,bk),v)])) ∨
  ∃ i bk v,q[i]? = some ((lo,bk),v)∧mget (qS q) lo=some bk∧mget (qM q) lo=some v∧∀ bk',mput (qS q) lo bk'=qS (q.set i ((lo,bk'),v))
 | []=>.inl ⟨rfl,rfl,fun bk v=>⟨rfl,rfl⟩⟩
 | y::q=>by
  obtain⟨⟨k,b⟩,u⟩:=y;by_cases e:k=lo
  ·subst e
   refine .inr ⟨0,b,u,rfl,?_,?_,fun bk' => ?_⟩
   ·show mget ((k,b)::qS q) k=_;rw[mget,if_pos rfl]
   ·show mget ((k,u)::qM q) k=_;rw[mget,if_pos rfl]
   ·show mput ((k,b)::qS q) k bk'=_;rw[mput,if_pos rfl];rfl
  ·rcases q_get lo q with ⟨h1,h2,h3⟩ | ⟨i,bk,v,h1,h2,h3,h4⟩
   ·refine .inl ⟨?_,?_,fun bk v=>⟨?_,?_⟩⟩
    ·show mget ((k,b)::qS q) lo=_;rw[mget,if_neg e];exact h1
    ·show mget ((k,u)::qM q) lo=_;rw[mget,if_neg e];exact h2
    ·show mput ((k,b)::qS q) lo bk=_;rw[mput,if_neg e,(h3 bk v).1];rfl
    ·show mput ((k,u)::qM q) lo v=_;rw[mput,if_neg e,(h3 bk v).2];rfl
   ·refine .inr ⟨i+1,bk,v,h1,?_,?_,fun bk' => ?_⟩
    ·show mget ((k,b)::qS q) lo=_;rw[mget,if_neg e];exact h2
    ·show mget ((k,u)::qM q) lo=_;rw[mget,if_neg e];exact h3
    ·show mput ((k,b)::qS q) lo bk'=_;rw[mput,if_neg e,h4 bk'];rfl
theorem qM_set {q:QL K B} {i:Nat} {lo:K} {bk bk':B} {v:Value} (h:q[i]? = some ((lo,bk),v)):qM (q.set i ((lo,bk'),v))=qM q:=by
 unfold qM;rw[List.map_set];obtain⟨hi,e⟩:=List.getElem?_eq_some_iff.1 h;apply List.ext_getElem?;intro j;by_cases c:i=j
 ·subst c
  rw[List.getElem?_set_self (by simpa using hi),List.getElem?_map,h];rfl
 ·rw[List.getElem?_set_ne c]
theorem qB_set {h:AVal} {f:B→List (Nat×MObj)} {q:QL K B} {i:Nat} {lo:K} {bk':B} {v:Value}:qB h f (q.set i ((lo,bk'),v))=(qB h f q).set i ⟨v,h,f bk'⟩:=by
 unfold qB;rw[List.map_set]
theorem qB_get {h:AVal} {f:B→List (Nat×MObj)} {q:QL K B} {i:Nat} {lo:K} {bk:B} {v:Value} (e:q[i]? = some ((lo,bk),v)):(qB h f q)[i]? = some ⟨v,h,f bk⟩:=by
 unfold qB;rw[List.getElem?_map,e];rfl
theorem qB_app {h:AVal} {f:B→List (Nat×MObj)} {q:QL K B} {lo:K} {bk:B} {v:Value}:qB h f (q++[((lo,bk),v)])=qB h f q++[⟨v,h,f bk⟩]:=by
 unfold qB;rw[List.map_append];rfl
end
end Go.Pv
