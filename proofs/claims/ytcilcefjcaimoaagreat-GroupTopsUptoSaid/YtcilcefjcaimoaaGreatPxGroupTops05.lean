import Derived.Shelf.Spec.SlicesInsertGrow
import Derived.Test.YtcilcefjcaimoaaGreatProg
import Derived.Test.YtcilcefjcaimoaaGreatPxGroupTops04
set_option linter.unusedVariables false
set_option linter.unusedSimpArgs false
namespace Go.Pv
def hasO (s:Z0) (q k:Nat):Bool:=match s.obj q with
 | some o=>o.has k
 | none=>false
def freshX (ex:List Nat) (s:Z0) (k:Nat):Bool :=
 s.slots.all (fun p => !(p.2.has k))&&s.objs.all (fun p=>isIn p.1 ex||match p.2 with | some o => !(o.has k) | none=>true)&&(s.obj k).isNone&&Nat.ble s.floor k
def newsP (ex:List Nat) (s:Z0):List Nat→List Prop
 | []=>[]
 | k::r=>ex.map (fun q=>hasO s q k=false)++newsP ex s r
theorem AllP_mem:∀ {l:List Prop},AllP l→∀ p∈l,p
 | p::r,h,q,hq=>by
  rcases List.mem_cons.1 hq with rfl | hq
  ·exact h.1
  ·exact AllP_mem h.2 q hq
theorem freshX_ok {ex:List Nat} {s:Z0} {k:Nat} (h:freshX ex s k=true) (hp:∀ q∈ex,hasO s q k=false):s.fresh k:=by
 simp only[freshX,Bool.and_eq_true] at h;obtain⟨⟨⟨h1,h2⟩,h3⟩,h4⟩:=h;refine⟨fun x => ?_,fun k' o ho => ?_,by simpa using h3,Nat.le_of_ble_eq_true h4⟩
 ·unfold     Z0.get
  cases e:look s.slots x with
  | none=>rfl
  | some v=>have:=List.all_eq_true.1 h1 _ (Z1i e);simpa using this
 ·by_cases hx:isIn k' ex=true
  ·have:=hp k' (     Z5g.1 hx)
   unfold hasO at this;rw[ho] at this;exact this
  ·unfold     Z0.obj at ho
   cases e:look s.objs k' with
   | none=>rw[e] at ho;simp at ho
   | some v =>
    rw[e] at ho;have hv:v=some o:=ho;subst hv;have:=List.all_eq_true.1 h2 _ (Z1i e);simp only[Bool.not_eq_true] at hx;simpa[hx] using this
theorem newsP_ok {ex:List Nat} {s:Z0}:∀ {l:List Nat},l.all (freshX ex s)=true→AllP (newsP ex s l)→∀ k∈l,s.fresh k
 | [],_,_,k,hk=>nomatch hk
 | x::r,h,hp,k,hk=>by
  simp only[List.all_cons,Bool.and_eq_true] at h;obtain⟨p1,p2⟩:=Z4v hp;rcases List.mem_cons.1 hk with rfl | hk
  ·exact freshX_ok h.1 (fun q hq=>AllP_mem p1 _ (List.mem_map.2 ⟨q,hq,rfl⟩))
  ·exact newsP_ok h.2 p2 k hk
def Z7l (P:Program) (n:Nat) (ops:Array Oper) (hints:List (Nat×Hint)) (ex:List Nat):List Oper→Nat→Z0→Option (List Item×Z0×List Prop)
 | [],_,s=>some ([],s,[])
 | o::r,i,s=>match dstB n o with
  | false=>none
  | true=>match goesA ops o s with
   | some false=>match Z7l     P n ops hints ex r (i+1) (s.put o.dst (.im (.sc undef))) with
    | some (its,s',ps)=>some ((o,.skip)::its,s',ps)
    | none=>none
   | some true=>match Zar    P (hintAt hints i) o s with
    | some e=>match e.news.all (freshX ex s) with
     | true=>match Z7l     P n ops hints ex r (i+1) ((s.objput e.post).put o.dst e.res) with
      | some (its,s',ps)=>some ((o,.run (mkSp s o e.keys e.news e.res e.post))::its,s',e.props++(newsP ex s e.news++ps))
      | none=>none
     | false=>none
    | none=>none
   | none=>none
theorem runOpsX_ok {P:Program} {n:Nat} {ops:Array Oper} {hints:List (Nat×Hint)} {ex:List Nat}:∀ {l:List Oper} {i:Nat} {s s':Z0} {its:List Item} {ps:List Prop},Z7l P n ops hints ex l i s=some (its,s',ps)→AllP ps →
  its.map (·.1)=l∧Z4e P ops its s∧Z34 its s=s'∧its.all (fun it=>match it.1.dst with | some d=>Nat.blt d n | none=>true)=true:=by
 intro l
 induction l with
 | nil =>
  intro i s s' its ps h _;simp[Z7l] at h;obtain⟨rfl,rfl,rfl⟩:=h;exact⟨rfl,trivial,rfl,rfl⟩
 | cons o r ih =>
  intro i s s' its ps h hp;unfold Z7l at h;split at h
  ·simp at h
  ·rename_i hd
   split at h
   ·rename_i hg
    split at h
    ·rename_i its' s'' ps' hr
     simp at h;obtain⟨rfl,rfl,rfl⟩:=h;obtain⟨g1,g2,g3,g4⟩:=ih hr hp;refine⟨by simp[g1],⟨Z8l hg,fun k hk=>by simp[Item.news] at hk,g2⟩,g3,?_⟩;simp only[List.all_cons,Bool.and_eq_true];exact⟨hd,g4⟩
    ·simp at h
   ·rename_i hg
    split at h
    ·rename_i e he
     split at h
     ·rename_i hf
      split at h
      ·rename_i its' s'' ps' hr
       simp at h;obtain⟨rfl,rfl,rfl⟩:=h;obtain⟨p1,p2⟩:=Z4v hp;obtain⟨p3,p4⟩:=Z4v p2;obtain⟨g1,g2,g3,g4⟩:=ih hr p4;refine⟨by simp[g1],⟨⟨Z8l hg,Zag ..,Z7e he p1⟩,fun k hk=>newsP_ok hf p3 k hk,g2⟩,g3,?_⟩;simp only[List.all_cons,Bool.and_eq_true];exact⟨hd,g4⟩
      ·simp at h
     ·simp at h
    ·simp at h
   ·simp at h
def itsNews (its:List Item):List Nat:=its.flatMap (·.news)
def Z7m (P:Program) (n:Nat) (draw:Bool) (ops:List Oper) (hints:List (Nat×Hint)) (ex live keeps:List Nat) (s:Z0):Option (Z0×List Prop) :=
 match Z7l P n ops.toArray hints ex ops 0 s with
 | some (its,s',ps)=>match draw with
  | false=>some (Z4g live keeps s',ps)
  | true=>match Z57    ops.toArray (Z5z   ops []) [] its&&(itsNews its).all (freshX ex s) with
   | true=>some (Z4g live keeps s',newsP ex s (itsNews its)++ps)
   | false=>none
 | none=>none
theorem AWp.regionX {Γ:Ctx} {id:Nat} {draw:Bool} {Q:Exit→Z0→Prop} {s:Z0} {ops:List Oper} (hints:List (Nat×Hint)) (ex live keeps:List Nat) (s':Z0) (ps:List Prop)
  (hm:Γ.P.follows .mixedOrders=true) (h:Z7m Γ.P Γ.n draw ops hints ex live keeps s=some (s',ps)) (hp:AllP ps) (hq:Q .normal s'):AWp Γ (.region id ops.toArray draw) Q s:=by
 unfold Z7m at h;split at h
 ·rename_i its s2 ps2 hr
  have fin:s'=Z4g live keeps s2→AllP ps2→(draw=true→Z57 ops.toArray (Z5z ops []) [] its=true∧∀ k∈itsNews its,s.fresh k)→AWp Γ (.region id ops.toArray draw) Q s:=by
   intro e1 hps hdraw;obtain⟨g1,g2,g3,g4⟩:=runOpsX_ok hr hps;have hq':∀ a w,Sat Γ s2 a w→∃ s3,Sat Γ s3 a w∧Q .normal s3:=fun a w h=>⟨s',e1 ▸ Z5t h live keeps,hq⟩
   subst g1;cases draw with
   | false =>
    intro a w hs;exact Code.wp_mono (fun e a w ⟨s3,h1,h2⟩=>by
     cases e with
     | normal=>simp only at h2;subst h2;exact hq' a w (g3 ▸ h1)
     | _=>exact h2.elim) (Z5u (Q:=fun e s3=>match e with | .normal=>s3=Z34 its s | _=>False) its g4 g2 rfl a w hs)
   | true =>
    obtain⟨d1,d2⟩:=hdraw rfl;have hf:∀ it∈its,∀ k∈it.news,s.fresh k:=fun it hit k hk=>d2 k (List.mem_flatMap.2 ⟨it,hit,hk⟩)
    intro a w hs;exact Code.wp_mono (fun e a w ⟨s3,h1,h2⟩=>by
     cases e with
     | normal=>simp only at h2;subst h2;exact hq' a w (g3 ▸ h1)
     | _=>exact h2.elim) (Z6r (Q:=fun e s3=>match e with | .normal=>s3=Z34 its s | _=>False) hm its g4 d1 g2 hf rfl a w hs)
  split at h
  ·simp at h;exact fin h.1.symm (h.2 ▸ hp) (fun e=>by simp at e)
  ·split at h
   ·rename_i hb
    simp only[Bool.and_eq_true] at hb;simp only[Option.some.injEq,Prod.mk.injEq] at h;have hp:=h.2 ▸ hp;obtain⟨p1,p2⟩:=Z4v hp;exact fin h.1.symm p2 (fun _=>⟨hb.1,newsP_ok hb.2 p1⟩)
   ·simp at h
 ·simp at h
theorem put_keep {a:Act} {d:Option Nat} {v:Value} {x:Nat} (h:x ∉ d.toList):(a.put d v).tmps.getD x undef=a.tmps.getD x undef:=by
 cases d with
 | none=>rfl
 | some d =>
  have:d≠x:=fun e=>h (by simp[e]);simp[Act.put,Array.getD_eq_getD_getElem?,Array.getElem?_setIfInBounds,this]
def keepQ (x:Nat→Bool) (v:Nat→Value) (Q:Exit→Act→World→Prop) (e:Exit) (a:Act) (w:World):Prop:=Q e a w∧(e = .normal→∀ y,x y=true→a.tmps.getD y undef=v y)
theorem Z82 {x:Nat→Bool} {v:Nat→Value} {Q:Exit→Act→World→Prop} (h:LetsOut Q):LetsOut (keepQ x v Q):=let ⟨a,w,h⟩:=h;⟨a,w,h,fun e=>nomatch e⟩
theorem wp_keep {P:Program} {o:Oper} {a:Act} {w:World} {K K':Act→World→Prop} {Q:Exit→Act→World→Prop} {x:Nat→Bool} {v:Nat→Value} (hd:∀ y,x y=true→y ∉ o.dst.toList) (ha:∀ y,x y=true→a.tmps.getD y undef=v y)
  (hK:∀ a' w',(∀ y,x y=true→a'.tmps.getD y undef=v y)→K a' w'→K' a' w') (h:o.wp P a w K Q):o.wp P a w K' (keepQ x v Q):=by
 have hp:∀ (a0:Act) u,a0.tmps=a.tmps→∀ y,x y=true→(a0.put o.dst u).tmps.getD y undef=v y:=fun a0 u e y hy=>by rw[put_keep (hd y hy),e];exact ha y hy
 unfold Oper.wp at h ⊢;generalize (execOp a.eval o).run P w=r at h ⊢;unfold Oper.upon at h ⊢;split at h
 ·exact hK _ _ (hp a _ rfl) h
 ·exact hK _ _ (hp a _ rfl) h
 ·exact hK _ _ (hp _ _ rfl) h
 ·refine h.mono fun e w' he => ?_
  cases e with
  | returned u=>exact hK _ _ (hp a _ rfl) he
  | panicked c=>exact⟨he,fun e=>nomatch e⟩
  | outgrown=>exact Z82 he
 ·exact h.mono fun u w' he=>hK _ _ (hp a _ rfl) he
 ·exact⟨h,fun e=>nomatch e⟩
 ·exact h.elim
theorem Z8s {P:Program} {ops:Array Oper} {Q:Exit→Act→World→Prop} {x:Nat→Bool} {v:Nat→Value}:∀ {l:List Oper} (hd:∀ o∈l,∀ y,x y=true→y ∉ o.dst.toList) {a:Act} {w:World} (ha:∀ y,x y=true→a.tmps.getD y undef=v y),wpList P ops Q l a w→wpList P ops (keepQ x v Q) l a w
 | [],hd,a,w,ha,h=>⟨h,fun _=>ha⟩
 | o::r,hd,a,w,ha,h=>by
  unfold wpList at h ⊢;have hr:∀ a' w',(∀ y,x y=true→a'.tmps.getD y undef=v y)→wpList P ops Q r a' w'→wpList P ops (keepQ x v Q) r a' w':=fun a' w' ha' h'=>Z8s (fun o ho=>hd o (List.mem_cons_of_mem _ ho)) ha' h'
  split at h
  ·rename_i hw
   rw[if_pos hw];rcases h with h | ⟨h1,h2⟩
   ·exact .inl (wp_keep (hd o (by simp)) ha hr h)
   ·exact .inr ⟨h1,Z82 h2⟩
  ·rename_i hw
   rw[if_neg hw];refine hr _ _ (fun y hy => ?_) h;rw[put_keep (hd o (by simp) y hy)];exact ha y hy
def Z8n (l:List Oper) (x:Nat):Bool:=l.all fun o=>match o.dst with
 | some d => !(Nat.beq d x)
 | none=>true
theorem dstsFree_ok {l:List Oper} {x:Nat} (h:Z8n l x=true):∀ o∈l,x ∉ o.dst.toList:=by
 intro o ho hx;have:=List.all_eq_true.1 h o ho;cases hd:o.dst with
 | none=>rw[hd] at hx;simp at hx
 | some d =>
  rw[hd] at hx this;simp at hx;subst hx;simp at this
def LAw (Γ:Ctx) (l:List Oper) (Q:Z0→Prop) (s:Z0):Prop:=∀ a w,Sat Γ s a w→wpList Γ.P l.toArray (fun e a' w'=>e = .normal∧∃ s',Sat Γ s' a' w'∧Q s') l a w
theorem LAw.run {P:Program} {n:Nat} {Γ:Ctx} (hP:Γ.P=P) (hn:Γ.n=n) {Q:Z0→Prop} {s:Z0} {ops:List Oper} (hints:List (Nat×Hint)) (ch:List (Nat×AVal)) (live:List Nat) (oc:List (Nat×Option MObj)) (keeps:List Nat) (ps:List Prop) (hp:AllP ps) (hq:Q (up s ch live oc keeps))
  (h:Z36 P n false ops hints live keeps s=some (up s ch live oc keeps,ps):=by kernel_rfl):LAw Γ ops Q s:=by
 subst hP;subst hn;unfold Z36 at h;split at h
 ·rename_i its s2 ps2 hr
  simp only[Option.some.injEq,Prod.mk.injEq] at h;obtain⟨e1,rfl⟩:=h;obtain⟨g1,g2,g3,g4⟩:=Z90 hr hp;intro a w hs;have hl:∀ it∈its,∀ d,it.1.dst=some d→d<Γ.n:=by
   intro it hit d e;have:=List.all_eq_true.1 g4 it hit;rw[e] at this;simpa[Nat.blt_eq] using this
  have hnn:∀ (j:Nat) (o':Oper),ops.toArray[j]? = some o'→∀ d,o'.dst=some d→d<Γ.n:=by
   intro j o' ho d e;have:o'∈its.map (·.1):=by
    have:=Array.mem_of_getElem? ho;rw[g1];simpa using this
   obtain⟨it,hit,rfl⟩:=List.mem_map.1 this;exact hl it hit d e
  have:=wp_items (Γ:=Γ) (ops:=ops.toArray) (Q:=fun e a' w'=>e = .normal∧∃ s',Sat Γ s' a' w'∧Q s') hnn its hl s a w hs g2 (fun a' w' h=>⟨rfl,_,Z5t (g3 ▸ h) live keeps,by rw[e1];exact hq⟩);rw[g1] at this;exact this
 ·simp at h
theorem GWp.view' {Γ:Ctx} {id:Nat} {l:List Oper} {Q:Exit→Z0→Gh→Prop} {s:Z0} {g:Gh} (sv:List (Nat×AVal)) (res:List (Nat×Value)) (live:List Nat)
  (hs:∀ a w κ I,Rel Γ κ I s a w→GInv Γ κ I s g w→∀ p∈sv,Rep w (fun b=>b<w.heap.size) (fun _=>none) p.2 (a.tmps.getD p.1 undef))
  (h:∀ (Γ':Ctx),Γ'.P=Γ.P→Γ'.n=Γ.n→LAw Γ' l (fun s'=>∀ p∈res,s'.get p.1 = .im (.sc p.2)) ⟨sv,[],0⟩)
  (hq:Q .normal ⟨res.map (fun p=>(p.1,.im (.sc p.2)))++live.map (fun x=>(x,s.get x)),s.objs,s.floor⟩ g)
  (hl:live.all (Z8n l)=true:=by kernel_rfl):GWp Γ (.region id l.toArray false) Q s g:=by
 rintro a w ⟨κ,I,hr,hg⟩;have glob:Za4 Γ.P (fun b=>b<w.heap.size) (fun _=>False) w:=fun x cs e=>by
  obtain⟨h1,h2,h3⟩:=hr.inv.tab e;exact⟨h2,fun h=>h,h2,h3⟩
 let Γ':Ctx := { P:=Γ.P,n:=Γ.n,w0:=w,I0:=fun b=>b<w.heap.size,M0:=fun _=>False,κ0:=fun _=>none,glob:=glob }
 have no:∀ k o,(⟨sv,[],0⟩:Z0).obj k=some o→False:=fun k o e=>by simp[Z0.obj,look] at e
 have sat:Sat Γ' ⟨sv,[],0⟩ a w:=⟨fun _=>none,fun b=>b<w.heap.size,hr.size,hr.defers,fun x=>by
  show Rep _ _ _ ((look sv x).getD .top) _;cases e:look sv x with
  | none=>exact .top _
  | some v=>exact hs a w κ I hr hg _ (Z1i e),fun k o e=>(no k o e).elim,fun k k' o o' ki ki' e=>(no k o e).elim,fun k o ki e=>(no k o e).elim,fun b h=>h,Z7j.refl _ _,fun _ h=>h,fun b h=>.inl h,fun k o ki e=>(no k o e).elim,fun k hk=>rfl⟩
 have hfree:∀ o∈l,∀ y,Z8n l y=true→y ∉ o.dst.toList:=fun o ho y hy=>dstsFree_ok hy o ho
 refine Code.wp_mono (fun e a' w' ⟨⟨he,s',h1,h2⟩,hkeep⟩ => ?_) (wp_region_lit (Z8s (x:=Z8n l) (v:=fun y=>a.tmps.getD y undef) hfree (fun _ _=>rfl) (h Γ' rfl rfl a w sat)));subst he;have hkeep:=hkeep rfl;obtain⟨κ',I',r'⟩:=h1;have hsz:w.heap.size≤w'.heap.size:=r'.inv.keep.size;have old:∀ b,b<w.heap.size→w'.heap[b]? = w.heap[b]? := fun b hb=>r'.inv.keep.block b hb (fun h=>h)
 have oI:∀ b,I b→w'.heap[b]? = w.heap[b]? := fun b hb=>old b (hr.inv.bound b hb)
 refine⟨⟨res.map (fun p=>(p.1,.im (.sc p.2)))++live.map (fun x=>(x,s.get x)),s.objs,s.floor⟩,g,⟨κ,I,⟨r'.size,r'.defers,fun x => ?_,?_,hr.inv.inj,hr.inv.disj,?_,?_,hr.inv.ikeep,hr.inv.fromI,hr.inv.fromO,hr.inv.fix⟩,?_,?_,hg.dis,hg.obj,hg.new⟩,hq⟩
 ·show Rep w' I κ ((look (res.map (fun p=>(p.1,AVal.im (.sc p.2)))++live.map (fun x=>(x,s.get x))) x).getD .top) _
  cases e:look (res.map (fun p=>(p.1,AVal.im (.sc p.2)))++live.map (fun x=>(x,s.get x))) x with
  | none=>exact .top _
  | some v =>
   have hm:=Z1i e;rcases List.mem_append.1 hm with hm | hm
   ·obtain⟨p,hp,ep⟩:=List.mem_map.1 hm
    simp only[Prod.mk.injEq] at ep;obtain⟨rfl,rfl⟩:=ep;have:=r'.slots p.1;rw[h2 p hp] at this;show Rep _ _ _ (.im (.sc p.2)) _;rw[this.sc_inv];exact .im (.sc _)
   ·obtain⟨y,hy,ep⟩:=List.mem_map.1 hm
    simp only[Prod.mk.injEq] at ep;obtain⟨rfl,rfl⟩:=ep;rw[hkeep y (List.all_eq_true.1 hl y hy)];exact(hr.slots y).mono (fun _ h=>h) oI (fun _ _=>rfl)
 ·intro k o hk
  have h0:=hr.inv.objs k o hk;unfold OAt at h0 ⊢;cases e:κ k with
  | none=>rw[e] at h0;exact h0
  | some ki=>rw[e] at h0;exact h0.mono (fun _ h=>h) oI (old _ h0.lt) (fun _ _=>rfl)
 ·exact fun b hb=>Nat.lt_of_lt_of_le (hr.inv.bound b hb) hsz
 ·exact hr.inv.keep.trans r'.inv.keep (fun b hb hm=>hm.elim)
 ·exact g.mono w w' I I (fun b hb=>old b (hg.size b hb)) (fun _ h=>h) oI hg.holds
 ·exact fun b hb=>Nat.lt_of_lt_of_le (hg.size b hb) hsz
theorem GWp.post {Γ:Ctx} {c:Code} {Q:Exit→Z0→Gh→Prop} {s:Z0} {g:Gh} (h:GWp Γ c (fun e s' g'=>∀ a w,GSat Γ s' g' a w→∃ s2 g2,GSat Γ s2 g2 a w∧Q e s2 g2) s g):GWp Γ c Q s g :=
 fun a w hs=>Code.wp_mono (fun e a w ⟨s',g',h1,h2⟩=>h2 a w h1) (h a w hs)
theorem GLWp.mono {Γ:Ctx} {c:Code} {Q Q':Exit→Z0→Gh→Prop} {s:Z0} {g:Gh} (h:GLWp Γ c Q s g) (hq:∀ e s g,Q e s g→Q' e s g):GLWp Γ c Q' s g :=
 fun a w hs b k cs=>let ⟨e,a',w',⟨s',g',h1,h2⟩,h3⟩:=h a w hs b k cs;⟨e,a',w',⟨s',g',h1,hq _ _ _ h2⟩,h3⟩
theorem GWp.loopB {Γ:Ctx} {c:Code} {Q:Exit→Z0→Gh→Prop} {s:Z0} {g:Gh} (h:∀ c',c'=c→GLWp Γ c' Q s g):GWp Γ (.loop c) Q s g:=GWp.loop (h c rfl)
theorem gR {P:Program} {n:Nat} {Γ:Ctx} (hP:Γ.P=P) (hn:Γ.n=n) (hm:P.follows .mixedOrders=true) {id:Nat} {draw:Bool} {Q:Exit→Z0→Gh→Prop} {s:Z0} {g:Gh} {ops:List Oper} (hints:List (Nat×Hint)) (ch:List (Nat×AVal)) (live:List Nat) (oc:List (Nat×Option MObj)) (keeps:List Nat) (ps:List Prop) (hp:AllP ps) (hq:Q .normal (up s ch live oc keeps) g)
  (h:Z36 P n draw ops hints live keeps s=some (up s ch live oc keeps,ps):=by kernel_rfl):GWp Γ (.region id ops.toArray draw) Q s g:=GWp.frame fun Γ' e1 e2=>rG (e1.trans hP) (e2.trans hn) hm hints ch live oc keeps ps hp ⟨rfl,hq⟩ h
theorem gS {P:Program} {n:Nat} {Γ:Ctx} (hP:Γ.P=P) (hn:Γ.n=n) (hm:P.follows .mixedOrders=true) {id:Nat} {draw:Bool} {y:Code} {Q:Exit→Z0→Gh→Prop} {s:Z0} {g:Gh} {ops:List Oper} (hints:List (Nat×Hint)) (ch:List (Nat×AVal)) (live:List Nat) (oc:List (Nat×Option MObj)) (keeps:List Nat) (ps:List Prop) (hp:AllP ps) (hq:GWp Γ y Q (up s ch live oc keeps) g)
  (h:Z36 P n draw ops hints live keeps s=some (up s ch live oc keeps,ps):=by kernel_rfl):GWp Γ (.seq (.region id ops.toArray draw) y) Q s g:=GWp.seq (gR hP hn hm hints ch live oc keeps ps hp hq h)
theorem gK {P:Program} {n:Nat} {Γ:Ctx} (hP:Γ.P=P) (hn:Γ.n=n) (hm:P.follows .mixedOrders=true) {id:Nat} {draw:Bool} {Q:Exit→Z0→Gh→Prop} {s:Z0} {g:Gh} {ops:List Oper} (hints:List (Nat×Hint)) (ch:List (Nat×AVal)) (live:List Nat) (oc:List (Nat×Option MObj)) (keeps:List Nat) (ps:List Prop) (inv:List (Nat×Nat)) (vk e0:List Nat) (t:Z0) (hp:AllP ps) (ht:t.floor=s.floor) (hq:Q .normal t g)
  (h:Z36 P n draw ops hints live keeps s=some (up s ch live oc keeps,ps):=by kernel_rfl) (hc:Z8f (up s ch live oc keeps) inv vk e0 t=some t:=by kernel_rfl):GWp Γ (.region id ops.toArray draw) Q s g :=
 GWp.frame fun Γ' e1 e2=>AWp.cv (rG (e1.trans hP) (e2.trans hn) hm hints ch live oc keeps ps hp (lf inv vk e0 hc ⟨ht,hq⟩) h)
theorem gX {P:Program} {n:Nat} {Γ:Ctx} (hP:Γ.P=P) (hn:Γ.n=n) (hm:P.follows .mixedOrders=true) {id:Nat} {draw:Bool} {Q:Exit→Z0→Gh→Prop} {s:Z0} {g:Gh} {ops:List Oper} (hints:List (Nat×Hint)) (ex:List Nat) (ch:List (Nat×AVal)) (live:List Nat) (oc:List (Nat×Option MObj)) (keeps:List Nat) (ps:List Prop) (hp:AllP ps) (hq:Q .normal (up s ch live oc keeps) g)
  (h:Z7m P n draw ops hints ex live keeps s=some (up s ch live oc keeps,ps):=by kernel_rfl):GWp Γ (.region id ops.toArray draw) Q s g:=GWp.frame fun Γ' e1 e2=>by
 have hP':=e1.trans hP;have hn':=e2.trans hn;rw[← hP',← hn'] at h;exact AWp.regionX hints ex live keeps _ ps (by rw[hP'];exact hm) h hp ⟨rfl,hq⟩
theorem Z5h {u:List Value} {n k c:Nat} (h:c≠k):Z5i k ((Z1a u).set n [.own c])=false:=by
 have h0:∀ u:List Value,Z5i k (Z1a u)=false:=fun u=>by
  induction u with
  | nil=>rfl
  | cons x r ih=>show(hasL k [.im (.sc x)]||Z5i k (Z1a r))=false;rw[ih];rfl
 induction u generalizing n with
 | nil=>rfl
 | cons x r ih =>
  cases n with
  | zero =>
   show(hasL k [.own c]||Z5i k (Z1a r))=false;rw[h0];have:Nat.beq c k=false:=by cases e:Nat.beq c k with | false=>rfl | true=>exact absurd (Nat.eq_of_beq_eq_true e) h
   simp[hasL,AVal.has,this]
  | succ n =>
   show(hasL k [.im (.sc x)]||Z5i k ((Z1a r).set n [.own c]))=false;rw[ih];rfl
def xOneC (k:Nat):Ext where
 f P o s:=match o.op with
  | .buildSlice t n parts=>match Z5p   P t,Z63      0 parts.toList with
   | some (e,sz),some [.const (.slice none 0 0)]=>match Z5o    P e with
    | some (by_,sz2)=>match Nat.beq sz2 sz&&Nat.beq n 1&&Nat.beq sz 1 with
     | true=>some ⟨[],[k],.own k,[(k,some (.row 1 e (Z0l [.slice none 0 0])))],[]⟩
     | false=>none
    | none=>none
   | _,_=>none
  | _=>none
 ok P o s e he hp:=by
  split at he
  ·rename_i t n parts ho
   split at he
   ·rename_i el sz hel hxs
    split at he
    ·rename_i by_ sz2 hby
     split at he
     ·rename_i hb
      simp only[Bool.and_eq_true] at hb;obtain⟨⟨b1,b2⟩,b3⟩:=hb;obtain rfl:=Nat.eq_of_beq_eq_true b1;obtain rfl:=Nat.eq_of_beq_eq_true b2;obtain rfl:=Nat.eq_of_beq_eq_true b3;obtain rfl:=Option.some.inj he;have hparts:parts=(Z2p 0 [.const (.slice none 0 0)]).toArray:=by rw[← Z8v hxs]
      refine .of fun Γ κ I s2 a w hP hr hn hf => ?_;have hfk:=hf k (by simp[mkSp]);obtain⟨hu,ag,hag⟩:=Z3w hel;obtain⟨i,z,hi,hz,hb1,hb2,hb3⟩:=Z5a hby;obtain⟨arr,ha1,ha2⟩:=fill_all (sz:=1) [Value.slice none 0 0] 0 ((Array.range (1*1)).map (z.cells[· % z.cells.size]!)) (by simp[Value.cells]) (by simp);simp only[Nat.zero_mul,List.take_zero,List.nil_append,List.flatMap_cons,List.flatMap_nil,List.append_nil] at ha2;have hpm:(parts.map fun(x:Nat×Operand)=>match x with | (i,x)=>(i,a.eval x))=(Z2p 0 [Value.slice none 0 0]).toArray:=by
       rw[hparts];simp[Z2p,Act.eval]
      have hrun:(execOp a.eval o).run P w = .ok (.value (.slice (some ⟨w.heap.size,0,none⟩) 1 1)) (World.alloc' w (.cells arr el)):=by
       simp only[execOp,ho,Instr.buildSlice];have h24:¬ (1*1>2 ^ 24):=by omega
       have h0:¬ (1*1=0):=by omega
       rw[hpm];simp only[Sem.run_bind,Zl hu,Result.andThen_ok,Z0y hag];rw[if_neg h24,if_neg h0];simp only[Sem.run_bind,zeroValue,Z16 hi,Result.andThen_ok,hz,pure_bind,Sem.run_pure,ha1];simp[newRow,newObj,Sem.run,World.alloc']
      let ki:KI:=⟨w.heap.size,1,1,1⟩
      have harr:arr.toList=[Value.slice none 0 0]:=by rw[ha2];rfl
      have hO:ORep (World.alloc' w (.cells arr el)) I (setK κ k (some ki)) ki (.row 1 el (Z0l [.slice none 0 0])):=by
       refine Z7z (arr:=arr) rfl rfl (Nat.le_refl 1) (Z4s _ _) (by rw[← Array.length_toList,harr];rfl) (fun j hj => ?_);obtain rfl:j=0:=by simp at hj;exact hj
       rw[← Array.getElem?_toList,harr];rfl
      obtain⟨q1,q2,q3⟩:=hr.inv.alloc hfk (ki:=ki) rfl hO;exact⟨_,_,_,setK κ k (some ki),I,.inl rfl,hrun,q1,fun _ h=>h,q2,q3,Rep.own (k:=k) (ki:=ki) (Z0q ..)⟩
     ·simp at he
    ·simp at he
   ·simp at he
  ·simp at he
theorem see_im {Γ:Ctx} {κ:Nat→Option KI} {I:Nat→Prop} {s:Z0} {a:Act} {w:World} {x:Nat} {y:Im} (hr:Rel Γ κ I s a w) (h:s.get x = .im y):Rep w (fun b=>b<w.heap.size) (fun _=>none) (.im y) (a.tmps.getD x undef):=by
 have:=hr.slots x;rw[h] at this;cases this with
 | im h=>exact .im (h.mono (fun b hb=>hr.inv.bound b hb) (fun _ _=>rfl))
theorem see_box {Γ:Ctx} {κ:Nat→Option KI} {I:Nat→Prop} {s:Z0} {a:Act} {w:World} {x k el:Nat} {cs:List Im} (hr:Rel Γ κ I s a w) (h:s.get x = .ptr k 0 0) (ho:s.obj k=some (.box el (cs.map .im))):Rep w (fun b=>b<w.heap.size) (fun _=>none) (.ip cs) (a.tmps.getD x undef):=by
 have h1:=hr.slots x;rw[h] at h1;have h0:=hr.inv.objs _ _ ho;unfold OAt at h0;generalize a.tmps.getD x undef=v at h1;cases h1 with
 | ptr e =>
  rename_i ki;rw[e] at h0;have hb:=h0.lt;obtain⟨_,_,arr,h3,h4,h5⟩:=h0;simp only[Nat.zero_mul,Nat.zero_add,Nat.add_zero];refine .ip (fun j=>(arr[j]?).getD undef) hb (fun j hj => ?_) (fun j hj => ?_)
  ·obtain⟨v,e1,_⟩:=h5 j (by simpa using hj)
   unfold World.cell?;simp only[h3,Nat.zero_add,e1];rfl
  ·obtain⟨v,e1,e2⟩:=h5 j (by simpa using hj)
   rw[e1];simp only[List.getElem_map] at e2;cases e2 with
   | im e2=>exact e2.mono (fun b hb=>hr.inv.bound b hb) (fun _ _=>rfl)
theorem see_nest {Γ:Ctx} {κ:Nat→Option KI} {I:Nat→Prop} {s:Z0} {a:Act} {w:World} {u:List Value} {gs:List (List (List Im))} {Bs:List (List Nat)} {sz el k5 e5 x:Nat} (hr:Rel Γ κ I s a w) (hg:GInv Γ κ I s (nest sz el u gs Bs) w) (h5:s.obj k5=some (.row 1 e5 (Z0l u))) (hx:s.get x = .own k5) :
  Rep w (fun b=>b<w.heap.size) (fun _=>none) (.im (.row (gs.map fun es=>[.row es]))) (a.tmps.getD x undef):=by
 obtain⟨hu,hB,hnd,hat⟩:=hg.holds;have h0:=hr.inv.objs _ _ h5;have hv:=hr.slots x;rw[hx] at hv;unfold OAt at h0;refine .im ?_;generalize a.tmps.getD x undef=val at hv ⊢;cases hv with
 | own0 base e =>
  rw[e] at h0;obtain⟨_,_,h0⟩:=h0;simp at h0;have:u=[]:=by simpa[Z0l] using h0.2.2
  have:gs=[]:=List.length_eq_zero_iff.1 (by rw[← hu,this];rfl);rw[this];exact .row0 base 0
 | own e =>
  rename_i ki;rw[e] at h0;have hlt:=h0.lt;obtain⟨g1,g2,g3,arr,g4,g5,g6⟩:=h0;have hlen:(Z0l u).length=gs.length:=by simp[Z0l,hu]
  have hcell:∀ i (h:i<u.length),arr[i]? = some u[i]:=fun i h=>by
   obtain⟨_,q⟩:=g6 i (by simpa[Z0l] using h);obtain⟨v,e1,e2⟩:=q 0 (by rw[Z39];simp);have:(Z0l u)[i][0]'(by rw[Z39];simp) = .sc u[i]:=by simp[Z0l]
   rw[this] at e2;cases e2;simpa using e1
  refine .row (sz:=1) (fun i _=>(arr[i]?).getD undef) (by simp[g2,hlen]) hlt (by rw[g2];exact g3) (fun i h=>by simp) (fun i j hi hj => ?_) (fun i hi j hj => ?_)
  ·obtain rfl:j=0:=by omega
   have hi':i<u.length:=by simpa[hu] using hi
   unfold World.cell?;simp only[g4,Nat.zero_add,Nat.mul_one,Nat.add_zero,hcell i hi'];rfl
  ·have hi':i<gs.length:=by simpa using hi
   obtain rfl:j=0:=by simp at hj;exact hj
   rw[hcell i (by omega)];simp only[List.getElem_map,List.getElem_cons_zero,Option.getD_some];rcases hat i hi' (by omega) (by omega) with ⟨base,e1,e2,e3⟩ | ⟨kj,e1,e2,e3⟩
   ·rw[e1,e2];exact .row0 base 0
   ·rw[e2];exact e3.data (fun b hb=>hr.inv.bound b hb) (by exact e3.lt)
theorem AWp.nest {Γ:Ctx} {c:Code} {Q:Exit→Z0→Prop} {s:Z0} {sz el:Nat} (h:GWp Γ c (fun e s' _=>Q e s') s (nest sz el [] [] [])):AWp Γ c Q s:=by
 rintro a w ⟨κ,I,hr⟩;refine Code.wp_mono (fun e a' w' ⟨s',g',⟨κ',I',r',_⟩,hq⟩=>⟨s',⟨κ',I',r'⟩,hq⟩) (h a w ⟨κ,I,hr,⟨⟨rfl,rfl,List.nodup_nil,fun i h=>absurd h (Nat.not_lt_zero _)⟩,?_,?_,?_,?_⟩⟩)<;>(intro b hb;cases hb)
theorem GWp.data {Γ:Ctx} {c:Code} {Q:Exit→Z0→Prop} {s t:Z0} {g:Gh} (hc:∀ a w,GSat Γ s g a w→Sat Γ t a w) (h:AWp Γ c Q t):GWp Γ c (fun e s' _=>Q e s') s g:=by
 intro a w hs;refine Code.wp_mono (fun e a' w' ⟨s',⟨κ,I,hr⟩,hq⟩=>⟨s',nest 0 0 [] [] [],⟨κ,I,hr,⟨⟨rfl,rfl,List.nodup_nil,fun i h=>absurd h (Nat.not_lt_zero _)⟩,?_,?_,?_,?_⟩⟩,hq⟩) (h a w (hc a w hs))<;>(intro b hb;cases hb)
theorem GWp.fact {Γ:Ctx} {c:Code} {Q:Exit→Z0→Gh→Prop} {s:Z0} {g:Gh} (φ:Prop) (hf:∀ a w,GSat Γ s g a w→φ) (h:φ→GWp Γ c Q s g):GWp Γ c Q s g:=fun a w hs=>h (hf a w hs) a w hs
theorem GLWp.fact {Γ:Ctx} {c:Code} {Q:Exit→Z0→Gh→Prop} {s:Z0} {g:Gh} (φ:Prop) (hf:∀ a w,GSat Γ s g a w→φ) (h:φ→GLWp Γ c Q s g):GLWp Γ c Q s g:=fun a w hs=>h (hf a w hs) a w hs
theorem GLWp.cv {Γ:Ctx} {c:Code} {Q:Exit→Z0→Gh→Prop} {s s':Z0} {g g':Gh} (hc:GCv Γ s g s' g') (h:GLWp Γ c Q s' g'):GLWp Γ c Q s g:=fun a w hs=>h a w (hc a w hs)
theorem nest_len {Γ:Ctx} {s:Z0} {u:List Value} {gs:List (List (List Im))} {Bs:List (List Nat)} {sz el:Nat} (a:Act) (w:World) (h:GSat Γ s (nest sz el u gs Bs) a w):u.length=gs.length∧Bs.length=gs.length∧∀ v∈u,v.oneCell'=true:=by
 obtain⟨κ,I,hr,hg⟩:=h;obtain⟨hu,hB,hnd,hat⟩:=hg.holds;refine⟨hu,hB,fun v hv => ?_⟩;obtain⟨i,hi,rfl⟩:=List.getElem_of_mem hv;rcases hat i (by omega) hi (by omega) with ⟨base,e1,_⟩ | ⟨kj,_,e2,_⟩
 ·rw[e1];rfl
 ·rw[e2];rfl
theorem nest_insert {Γ:Ctx} {s:Z0} {u:List Value} {gs:List (List (List Im))} {Bs:List (List Nat)} {sz el n:Nat} (hn:n≤gs.length) :
  GCv Γ s (nest sz el u gs Bs) s (nest sz el (u.take n ++ .slice none 0 0::u.drop n) (gs.take n++[]::gs.drop n) (Bs.take n++[]::Bs.drop n)):=by
 rintro a w ⟨κ,I,hr,hg⟩;obtain⟨hu,hB,hnd,hat⟩:=hg.holds;have hfl:(Bs.take n++[]::Bs.drop n).flatten=Bs.flatten:=by
  rw[List.flatten_append,List.flatten_cons,List.nil_append,← List.flatten_append,List.take_append_drop]
 have hB':∀ b,b∈(nest sz el (u.take n ++ .slice none 0 0::u.drop n) (gs.take n++[]::gs.drop n) (Bs.take n++[]::Bs.drop n)).B→b∈(nest sz el u gs Bs).B:=fun b hb=>by
  show b∈Bs.flatten;rw[← hfl];exact hb
 refine⟨κ,I,hr,⟨?_,fun b hb=>hg.size b (hB' b hb),fun b hb=>hg.dis b (hB' b hb),fun b hb=>hg.obj b (hB' b hb),fun b hb=>hg.new b (hB' b hb)⟩⟩;have hl:∀ {α:Type} (l:List α) (x:α),(l.take n++x::l.drop n).length=l.length+1:=fun l x=>by simp;omega
 refine⟨by rw[hl,hl,hu],by rw[hl,hl,hB],by rw[hfl];exact hnd,fun i h0 h1 h2 => ?_⟩;rw[hl] at h0 h1 h2;have get:∀ {α:Type} (l:List α) (x:α) (hh:i<(l.take n++x::l.drop n).length),n≤l.length→(∀ (q:i<n) (q2:i<l.length),(l.take n++x::l.drop n)[i]=l[i])∧(i=n→(l.take n++x::l.drop n)[i]=x)∧(∀ (q:n<i) (q2:i-1<l.length),(l.take n++x::l.drop n)[i]=l[i-1]):=by
  intro α l x hh hnl;have htl:(l.take n).length=n:=by simp;omega
  refine⟨fun q q2 => ?_,fun q => ?_,fun q q2 => ?_⟩
  ·rw[List.getElem_append_left (by omega)];simp
  ·subst q;rw[List.getElem_append_right (by omega)];simp[htl]
  ·rw[List.getElem_append_right (by omega)]
   simp only[htl];obtain⟨m,rfl⟩:∃ m,i=n+1+m:=⟨i-n-1,by omega⟩
   simp only[show n+1+m-n=m+1 from by omega,List.getElem_cons_succ,List.getElem_drop,show n+1+m-1=n+m from by omega]
 obtain⟨u1,u2,u3⟩:=get u (.slice none 0 0) (by rw[hl];exact h1) (by omega);obtain⟨g1,g2,g3⟩:=get gs [] (by rw[hl];exact h0) hn;obtain⟨b1,b2,b3⟩:=get Bs [] (by rw[hl];exact h2) (by omega);rcases Nat.lt_trichotomy i n with q | q | q
 ·rw[u1 q (by omega),g1 q (by omega),b1 q (by omega)];exact hat i _ _ _
 ·rw[u2 q,g2 q,b2 q];exact .inl ⟨none,rfl,rfl,rfl⟩
 ·rw[u3 q (by omega),g3 q (by omega),b3 q (by omega)];exact hat (i-1) _ _ _
end Go.Pv
namespace Go.Proofs
open Go Go.RowKit Go.Lib Go.IntKind
set_option maxHeartbeats 4000000 in
set_option maxRecDepth 100000 in
theorem ins_shift (b off n c i vb voff m vc:Nat) (cs vs:List Value) (w:World) (hi:i<n) (hm:0<m) (hroom:n+m≤c) (hc63:n+m≤9223372036854775807) (hvb:vb≠b)
  (hcl:cs.length=n) (hvl:vs.length=m)
  (hcs:∀ j v,cs[j]? = some v→w.cell? ⟨b,off+j,none⟩=some v) (hsp:∀ j,j<n+m→(w.cell? ⟨b,off+j,none⟩).isSome=true) (hfz:∀ j,j<n+m→w.frozen? ⟨b,off+j,none⟩=false)
  (hvs:∀ j v,vs[j]? = some v→w.cell? ⟨vb,voff+j,none⟩=some v) (h1c:∀ v∈cs,v.oneCell'=true) (h1v:∀ v∈vs,v.oneCell'=true)
  (tA tB:TypeId) (kA kB:Nat) (hsa:w.shape? vb=some (tA,kA)) (hsb:w.shape? b=some (tB,kB)) (hkB:kB≠0) (hfa:w.frozen? ⟨vb,voff,none⟩=false) (hfe:w.frozen? ⟨vb,kA,none⟩=false) :
  Calls Tryz.prog 51 #[.slice (some ⟨b,off,none⟩) n c,.int .i64 i,.slice (some ⟨vb,voff,none⟩) m vc] w fun e w' =>
   e = .returned (.slice (some ⟨b,off,none⟩) (n+m) c)∧w'=(w.drew.setCells b (off+(i+m)) (cs.drop i)).setCells b (off+i) vs:=by
 have hz1:¬ ((m:Int)=0):=by omega
 have hz2:¬ ((i:Int)=(n:Int)):=by omega
 have hsz:(Tryz.prog.info? 26).map (·.size)=some 1:=by
  obtain⟨i0,hi0,h0,h1,h2⟩:=info_parts (show(Tryz.prog.info? 26).map (fun i=>(i.zero,i.size,i.bytes))=some (some (Value.slice none 0 0),1,24) by kernel_rfl);rw[hi0];simp[h1]
 have hov:∀ lb cb,(callFunc 81 #[.slice (some ⟨vb,voff,none⟩) m vc,.slice (some ⟨b,off+(i+m),none⟩) lb cb]).run Tryz.prog w = .ok (.value (.bool false)) w:=fun lb cb=>by
  rw[run_callFunc_extern Tryz.func81 (by kernel_rfl) (by kernel_rfl) (by kernel_rfl) (e:=Extern.SlicesOverlaps.overlaps #[82,82] #[4]) (by kernel_rfl),
   Lib.run_overlaps_apart w 82 4 26 Tryz.underlying82 1 Tryz.sizeOf26 ⟨vb,voff,none⟩ ⟨b,off+(i+m),none⟩ m vc lb cb hvb tA tB kA kB hsa hsb hkB hfa hfe]
  rfl
 have hdl:(cs.drop i).length=n-i:=by rw[List.length_drop,hcl]
 have mixed:Tryz.prog.follows .mixedOrders=true:=by kernel_rfl
 have hw1:i64.wrap ((i:Int)+(m:Int))=(i:Int)+(m:Int):=by rw[IntKind.wrap_i64];omega
 have hb1:(0:Int)≤(i:Int)+(m:Int):=by omega
 have hin:i≤n:=by omega
 have htn:((i:Int)+(m:Int)).toNat=i+m:=by omega
 have hb2:¬ (c=i+m):=by omega
 have hb3:(i:Int)≤(n:Int)+(m:Int):=by omega
 have hb4:¬ (c=i):=by omega
 have hcp1:∀ ty dc sc,(Builtin.copy_ #[82,82] ty #[.slice (some ⟨b,off+(i+m),none⟩) (n+m-(i+m)) dc,.slice (some ⟨b,off+i,none⟩) (n+m-i) sc]).run Tryz.prog w.drew = .ok (goInt (cs.drop i).length) (w.drew.setCells b (off+(i+m)) (cs.drop i)):=fun ty dc sc =>
  run_copy_cells w.drew _ _ ty 26 b (off+(i+m)) (n+m-(i+m)) dc ⟨b,off+i,none⟩ (n+m-i) sc (cs.drop i) Tryz.underlying82 hsz (by rw[hdl];simp only[Nat.min_def];split<;>omega)
   (fun j v hj=>by rw[Addr.add_lit,Nat.add_assoc];exact hcs (i+j) v (by rwa [List.getElem?_drop] at hj))
   (fun j hj=>by rw[Nat.add_assoc];exact hsp _ (by omega)) (fun j hj=>by rw[Nat.add_assoc];exact hfz _ (by omega)) (fun v hv=>h1c v (List.mem_of_mem_drop hv))
 obtain⟨W1,hW1⟩:∃ W1,W1=w.drew.setCells b (off+(i+m)) (cs.drop i):=⟨_,rfl⟩
 have hsp1:∀ k,k<n+m→(W1.cell? ⟨b,off+k,none⟩).isSome=true:=fun k hk=>by
  rw[hW1];exact isSome_setCells b _ _ _ (fun j hj=>by rw[Nat.add_assoc];exact hsp _ (by omega)) _ (hsp k hk)
 have hcp2:∀ (W:World),(∀ x,W.cell? x=W1.cell? x)→(∀ x,W.frozen? x=W1.frozen? x)→∀ ty dc,(Builtin.copy_ #[82,82] ty #[.slice (some ⟨b,off+i,none⟩) (n+m-i) dc,.slice (some ⟨vb,voff,none⟩) m vc]).run Tryz.prog W = .ok (goInt vs.length) (W.setCells b (off+i) vs):=fun W hWc hWf ty dc =>
  run_copy_cells W _ _ ty 26 b (off+i) (n+m-i) dc ⟨vb,voff,none⟩ m vc vs Tryz.underlying82 hsz (by rw[hvl];simp only[Nat.min_def];split<;>omega)
   (fun j v hj=>by
    rw[Addr.add_lit,hWc,hW1,World.cell?_setCells_out b _ _ _ _ (fun h _=>absurd h hvb)];exact hvs j v hj)
   (fun j hj=>by rw[hWc,Nat.add_assoc];exact hsp1 _ (by omega)) (fun j hj=>by rw[hWf,hW1,World.frozen?_setCells,Nat.add_assoc];exact hfz _ (by omega)) h1v
 rw[← hW1] at hcp1
 go_enter Tryz.func51,Tryz.ntmps51
 go_wp2_with (simp only[hov])
 go_region_law_o (refine step_copy_runI rfl _ _ 82 82 rfl _ _ (by simp[Act.eval,Act.put]) (by simp[Act.eval,Act.put]) (hcp1 _ _ _) ?_)
 go_wp2_with (at_builtin;refine wpList_copy_runI _ rfl _ _ 82 82 rfl _ _ rfl rfl (hcp2 _ (fun _=>rfl) (fun _=>rfl) _ _) ?_)
 go_ret
 first | exact⟨rfl,rfl⟩ | exact⟨rfl,by rw[hW1]⟩
set_option maxHeartbeats 4000000 in
set_option maxRecDepth 100000 in
theorem ins_end_room (b off n c vb voff m vc:Nat) (vs:List Value) (w:World) (hm:0<m) (hroom:n+m≤c) (hc63:n+m≤9223372036854775807)
  (hvl:vs.length=m) (hsp:∀ j,j<m→(w.cell? ⟨b,off+n+j,none⟩).isSome=true) (hfz:∀ j,j<m→w.frozen? ⟨b,off+n+j,none⟩=false)
  (hvs:∀ j v,vs[j]? = some v→w.cell? ⟨vb,voff+j,none⟩=some v) (h1v:∀ v∈vs,v.oneCell'=true) :
  Calls Tryz.prog 51 #[.slice (some ⟨b,off,none⟩) n c,.int .i64 n,.slice (some ⟨vb,voff,none⟩) m vc] w fun e w' =>
   e = .returned (.slice (some ⟨b,off,none⟩) (n+m) c)∧w'=w.setCells b (off+n) vs:=by
 have mixed:Tryz.prog.follows .mixedOrders=true:=by kernel_rfl
 have hz1:¬ ((m:Int)=0):=by omega
 have hsrc:Src Tryz.prog 1 82 (.slice (some ⟨vb,voff,none⟩) m vc) m vs w:=Src.ofSlice w Tryz.underlying82 ⟨vb,voff,none⟩ m vc vs (by omega) (fun j u hj=>by rw[Addr.add_lit];exact hvs j u hj) h1v
 go_enter Tryz.func51,Tryz.ntmps51
 go_wp2_with (at_builtin;refine wpList_append_room1 _ rfl _ _ 82 82 rfl 26 _ _ Tryz.underlying82 (show(Tryz.prog.info? 26).map (fun i=>(i.zero,i.size,i.bytes))=some (some (Value.slice none 0 0),1,24) by kernel_rfl) b off n c rfl _ rfl m vs hsrc hroom (by rw[hvl];exact hsp) (by rw[hvl];exact hfz) ?_)
 go_ret
 exact⟨rfl,rfl⟩
set_option maxHeartbeats 4000000 in
set_option maxRecDepth 100000 in
theorem Z84 (base:Option Addr) (n c vb voff m vc:Nat) (cs vs:List Value) (w:World) (hm:0<m) (hnc:n≤c) (hroom:c<n+m) (hbig:(n+m)*24≤140737488355328)
  (hcl:cs.length=n) (hvl:vs.length=m) (hnil:base=none→n=0)
  (hcs:∀ a,base=some a→∀ j v,cs[j]? = some v→w.cell? (a.add j)=some v)
  (hvs:∀ j v,vs[j]? = some v→w.cell? ⟨vb,voff+j,none⟩=some v) (h1v:∀ v∈vs,v.oneCell'=true) :
  Calls Tryz.prog 51 #[.slice base n c,.int .i64 n,.slice (some ⟨vb,voff,none⟩) m vc] w fun e w' =>
   e = .returned (.slice (some ⟨w.heap.size,0,none⟩) (n+m) (grownCap w (n+m) c 26)) ∧
   w'=w.drew.alloc (.cells ((cs++vs).toArray++Builtin.zeroCells (Value.slice none 0 0).cells (grownCap w (n+m) c 26-(n+m))) 26):=by
 have mixed:Tryz.prog.follows .mixedOrders=true:=by kernel_rfl
 obtain⟨i0,hi0,hz0,hzs,hzb⟩:=info_parts (show(Tryz.prog.info? 26).map (fun i=>(i.zero,i.size,i.bytes))=some (some (Value.slice none 0 0),1,24) by kernel_rfl);have hz1:¬ ((m:Int)=0):=by omega
 have hsrc:Src Tryz.prog i0.size 82 (.slice (some ⟨vb,voff,none⟩) m vc) m vs w:=by
  rw[hzs];exact Src.ofSlice w Tryz.underlying82 ⟨vb,voff,none⟩ m vc vs (by omega) (fun j u hj=>by rw[Addr.add_lit];exact hvs j u hj) h1v
 have hold:(Builtin.firstCells i0.size n (.slice base n c)).run Tryz.prog w.drew = .ok cs.toArray w.drew:=by
  rw[hzs];cases base with
  | none =>
   have h0:=hnil rfl;subst h0;rw[List.length_eq_zero_iff.1 hcl];exact run_firstCells_none w.drew 1 0 0 c
  | some a=>exact run_firstCells_some w.drew 1 n a n c cs (by omega) (fun j v hj=>hcs a rfl j v hj)
 have hrun:∀ ty,(Builtin.append_ #[82,82] ty #[.slice base n c,.slice (some ⟨vb,voff,none⟩) m vc]).run Tryz.prog w=_:=fun ty =>
  run_append_grow_src w 82 82 ty 26 i0 _ Tryz.underlying82 hi0 hz0 base n c cs hold _ m vs hsrc hroom (by omega) (by rw[hzb];exact growslice_fits hroom hbig)
 go_enter Tryz.func51,Tryz.ntmps51
 cases base with
 | none =>
  have h0:=hnil rfl;subst h0
  go_wp2_with (at_builtin;refine Lib.wpList_append_run _ rfl _ _ _ _ rfl _ _ rfl rfl _ _ (hrun _) ?_)
  go_ret
  exact⟨rfl,rfl⟩
 | some a =>
  obtain⟨ab,ao,asp⟩:=a
  go_wp2_with (at_builtin;refine Lib.wpList_append_run _ rfl _ _ _ _ rfl _ _ rfl rfl _ _ (hrun _) ?_)
  all_goals (go_ret;exact⟨rfl,rfl⟩)
set_option maxHeartbeats 4000000 in
set_option maxRecDepth 100000 in
theorem ins_grow (b off n c i vb voff m vc:Nat) (cs vs:List Value) (w:World) (hi:i<n) (hm:0<m) (hnc:n≤c) (hroom:c<n+m) (hbig:(n+m)*24≤140737488355328)
  (hcl:cs.length=n) (hvl:vs.length=m)
  (hcs:∀ j v,cs[j]? = some v→w.cell? ⟨b,off+j,none⟩=some v)
  (hvs:∀ j v,vs[j]? = some v→w.cell? ⟨vb,voff+j,none⟩=some v) (h1c:∀ v∈cs,v.oneCell'=true) (h1v:∀ v∈vs,v.oneCell'=true) :
  Calls Tryz.prog 51 #[.slice (some ⟨b,off,none⟩) n c,.int .i64 i,.slice (some ⟨vb,voff,none⟩) m vc] w fun e w' =>
   e = .returned (.slice (some ⟨w.heap.size,0,none⟩) (n+m) (grownCap w (n+m) c 26)) ∧
   w'=(((w.alloc (.cells ((cs.take i).toArray++Builtin.zeroCells (Value.slice none 0 0).cells (n+m-i)++Builtin.zeroCells (Value.slice none 0 0).cells (grownCap w (n+m) c 26-(n+m))) 26)).drew.setCells w.heap.size i vs).drew).setCells w.heap.size (i+m) (cs.drop i):=by
 have mixed:Tryz.prog.follows .mixedOrders=true:=by kernel_rfl
 obtain⟨i0,hi0,hz0,hzs,hzb⟩:=info_parts (show(Tryz.prog.info? 26).map (fun i=>(i.zero,i.size,i.bytes))=some (some (Value.slice none 0 0),1,24) by kernel_rfl);have hz1:¬ ((m:Int)=0):=by omega
 have hz2:¬ ((i:Int)=(n:Int)):=by omega
 have hz3:(c:Int)<(n:Int)+(m:Int):=by omega
 have hsz:(Tryz.prog.info? 26).map (·.size)=some 1:=by rw[hi0];simp[hzs]
 have hbw:b<w.heap.size:=block_lt_of_cell (hcs 0 _ (List.getElem?_eq_getElem (by omega)));have hvw:vb<w.heap.size:=block_lt_of_cell (hvs 0 _ (List.getElem?_eq_getElem (by omega)));have hkk:(n:Int)+(m:Int)-(i:Int)=((n+m-i:Nat):Int):=by omega
 have hik:i+(n+m-i)=n+m:=by omega
 have hold:(Builtin.firstCells i0.size i (.slice (some ⟨b,off,none⟩) i c)).run Tryz.prog w.drew = .ok (cs.take i).toArray w.drew:=by
  rw[hzs];exact run_firstCells_some w.drew 1 i ⟨b,off,none⟩ i c (cs.take i) (by rw[List.length_take];omega) (fun j v hj=>by
   rw[Addr.add_lit];rw[List.getElem?_take] at hj;split at hj
   ·exact hcs j v hj
   ·cases hj)
 have hrz:∀ ty,(Builtin.append_ #[82,3] ty #[.slice (some ⟨b,off,none⟩) i c,.int .i64 ((n:Int)+(m:Int)-(i:Int))]).run Tryz.prog w =
   .ok (.slice (some ⟨w.heap.size,0,none⟩) (n+m) (grownCap w (n+m) c 26)) (w.drew.alloc (.cells ((cs.take i).toArray++Builtin.zeroCells (Value.slice none 0 0).cells (n+m-i)++Builtin.zeroCells (Value.slice none 0 0).cells (grownCap w (n+m) c 26-(n+m))) 26)):=fun ty=>by
  have h:=Lib.run_append_grow_zeros w 82 3 ty 26 i0 _ .i64 .i64 Tryz.underlying82 Tryz.underlying3 hi0 hz0 (some ⟨b,off,none⟩) i c (cs.take i) hold (n+m-i) (by omega) (by omega) (by omega) (by omega) (by rw[hzb];omega) (by rw[hzb,hik];exact growslice_fits hroom hbig);rw[hik] at h;rw[hkk];exact h
 obtain⟨G,hG⟩:∃ G,G=grownCap w (n+m) c 26:=⟨_,rfl⟩
 obtain⟨ROW,hROW⟩:∃ ROW:Array Value,ROW=(cs.take i).toArray++Builtin.zeroCells (Value.slice none 0 0).cells (n+m-i)++Builtin.zeroCells (Value.slice none 0 0).cells (G-(n+m)):=⟨_,rfl⟩
 rw[← hG] at hrz ⊢;rw[← hROW] at hrz ⊢;have hRl:n+m≤ROW.size:=by
  rw[hROW];simp[Builtin.zeroCells,Value.cells];omega
 obtain⟨W1,hW1⟩:∃ W1,W1=w.drew.alloc (.cells ROW 26):=⟨_,rfl⟩
 rw[← hW1] at hrz;have hN:∀ j,j<n+m→(W1.cell? ⟨w.heap.size,j,none⟩).isSome=true:=fun j hj=>by
  rw[hW1,World.cell?_alloc_at (w:=w.drew) ROW _ w.heap.size j rfl,Array.getElem?_eq_getElem (by omega)];rfl
 have hNf:∀ j,W1.frozen? ⟨w.heap.size,j,none⟩=false:=fun j=>by rw[hW1];exact World.frozen?_alloc_at (w:=w.drew) ROW _ w.heap.size j rfl
 have hOb:∀ j v,w.cell? ⟨b,j,none⟩=some v→W1.cell? ⟨b,j,none⟩=some v:=fun j v h=>by rw[hW1,World.cell?_alloc_past (w:=w.drew) _ b j hbw];exact h
 have hOv:∀ j v,w.cell? ⟨vb,j,none⟩=some v→W1.cell? ⟨vb,j,none⟩=some v:=fun j v h=>by rw[hW1,World.cell?_alloc_past (w:=w.drew) _ vb j hvw];exact h
 have hcpA:∀ (W:World),(∀ x,W.cell? x=W1.cell? x)→(∀ x,W.frozen? x=W1.frozen? x)→∀ ty dc,(Builtin.copy_ #[82,82] ty #[.slice (some ⟨w.heap.size,i,none⟩) (n+m-i) dc,.slice (some ⟨vb,voff,none⟩) m vc]).run Tryz.prog W = .ok (goInt vs.length) (W.setCells w.heap.size i vs):=fun W hWc hWf ty dc =>
  run_copy_cells W _ _ ty 26 w.heap.size i (n+m-i) dc ⟨vb,voff,none⟩ m vc vs Tryz.underlying82 hsz (by rw[hvl];simp only[Nat.min_def];split<;>omega)
   (fun j v hj=>by rw[Addr.add_lit,hWc];exact hOv _ v (hvs j v hj))
   (fun j hj=>by rw[hWc];exact hN _ (by omega)) (fun j hj=>by rw[hWf];exact hNf _) h1v
 have hGn:n+m≤G:=by rw[hG];exact grownCap_ge w _ _ _
 have hG63:G≤9223372036854775807:=by
  have:=grownCap_le_maxLen w (n+m) c 26 (by unfold maxLen;omega);rw[← hG] at this;unfold maxLen at this;omega
 have hGi:¬ (G=i):=by omega
 have hGim:¬ (G=i+m):=by omega
 have hci:¬ (c=i):=by omega
 have hbN:b≠w.heap.size:=by omega
 have hdl:(cs.drop i).length=n-i:=by rw[List.length_drop,hcl]
 have hcpB:∀ (W:World),(∀ x,W.cell? x=(W1.setCells w.heap.size i vs).cell? x)→(∀ x,W.frozen? x=(W1.setCells w.heap.size i vs).frozen? x)→∀ ty dc sc,(Builtin.copy_ #[82,82] ty #[.slice (some ⟨w.heap.size,i+m,none⟩) (n+m-(i+m)) dc,.slice (some ⟨b,off+i,none⟩) (n-i) sc]).run Tryz.prog W = .ok (goInt (cs.drop i).length) (W.setCells w.heap.size (i+m) (cs.drop i)):=fun W hWc hWf ty dc sc =>
  run_copy_cells W _ _ ty 26 w.heap.size (i+m) (n+m-(i+m)) dc ⟨b,off+i,none⟩ (n-i) sc (cs.drop i) Tryz.underlying82 hsz (by rw[hdl];simp only[Nat.min_def];split<;>omega)
   (fun j v hj=>by
    rw[Addr.add_lit,hWc,World.cell?_setCells_out _ _ _ _ _ (fun h _=>absurd h hbN),Nat.add_assoc];exact hOb _ v (hcs (i+j) v (by rwa [List.getElem?_drop] at hj)))
   (fun j hj=>by rw[hWc];exact isSome_setCells _ _ _ _ (fun t ht=>hN _ (by omega)) _ (hN _ (by omega)))
   (fun j hj=>by rw[hWf,World.frozen?_setCells];exact hNf _) (fun v hv=>h1c v (List.mem_of_mem_drop hv))
 subst hW1;have hE1:∀ x,((w.alloc (.cells ROW 26)).drew).cell? x=(w.drew.alloc (.cells ROW 26)).cell? x:=fun x=>rfl
 have hE2:∀ x,((w.alloc (.cells ROW 26)).drew).frozen? x=(w.drew.alloc (.cells ROW 26)).frozen? x:=fun x=>rfl
 have hF1:∀ x,(((w.alloc (.cells ROW 26)).drew.setCells w.heap.size i vs).drew).cell? x=((w.drew.alloc (.cells ROW 26)).setCells w.heap.size i vs).cell? x:=fun x=>rfl
 have hF2:∀ x,(((w.alloc (.cells ROW 26)).drew.setCells w.heap.size i vs).drew).frozen? x=((w.drew.alloc (.cells ROW 26)).setCells w.heap.size i vs).frozen? x:=fun x=>rfl
 have hw1:i64.wrap ((i:Int)+(m:Int))=(i:Int)+(m:Int):=by rw[IntKind.wrap_i64];omega
 have hb1:(0:Int)≤(i:Int)+(m:Int):=by omega
 have hin:i≤n:=by omega
 have htn:((i:Int)+(m:Int)).toNat=i+m:=by omega
 have hb3:(i:Int)≤(n:Int):=by omega
 clear hkk hik hold hROW hG hRl
 go_enter Tryz.func51,Tryz.ntmps51
 go_wp2_with (first
  | (at_builtin;refine Lib.wpList_append_run _ rfl _ _ _ _ rfl _ _ rfl rfl _ _ (hrz _) ?_)
  | (at_builtin;refine wpList_copy_runI _ rfl _ _ 82 82 rfl _ _ rfl rfl (hcpA _ hE1 hE2 _ _) ?_)
  | (at_builtin;refine wpList_copy_runI _ rfl _ _ 82 82 rfl _ _ rfl rfl (hcpB _ (fun _=>rfl) (fun _=>rfl) _ _ _) ?_))
 go_region_law_o (refine step_copy_runI rfl _ _ 82 82 rfl (.slice (some ⟨w.heap.size,i+m,none⟩) (n+m-(i+m)) (G-(i+m))) (.slice (some ⟨b,off+i,none⟩) (n-i) (c-i)) (by simp[Act.eval,Act.put]) (by simp[Act.eval,Act.put]) (hcpB _ hF1 hF2 3 (G-(i+m)) (c-i)) ?_)
 go_wp2
 go_ret
 exact⟨rfl,rfl⟩
end Go.Proofs
namespace Go.Proofs
open Go Go.Pv Go.IntKind
open Go.RowKit Go.Lib Go.IntKind in
set_option maxHeartbeats 4000000 in
theorem ins_all (us:List Value) (h1:∀ v∈us,v.oneCell'=true) (n:Nat) (hn:n≤us.length) (hbig:(us.length+1)*24≤140737488355328)
  (w:World) (v0:Value) (old:Option Nat) (vb vc:Nat) (varr:Array Value) (hin:(∃ base,v0 = .slice base 0 0∧us=[]∧old=none)∨∃ b c arr,v0 = .slice (some ⟨b,0,none⟩) us.length c∧old=some b∧w.heap[b]? = some (.cells arr 26 (0,0))∧arr.size=c∧us.length≤c∧∀ j (h:j<us.length),arr[j]? = some us[j])
  (hv:w.heap[vb]? = some (.cells varr 26 (0,0))) (hx:varr[0]? = some (Value.slice none 0 0)) (hne:old≠some vb) :
  Calls Tryz.prog 51 #[v0,.int .i64 n,.slice (some ⟨vb,0,none⟩) 1 vc] w fun e w'=>∃ v,e = .returned v∧InsOut w w' 26 (us.take n++(Value.slice none 0 0)::us.drop n) old v:=by
 have hvs:∀ (j:Nat) (v:Value),([(Value.slice none 0 0)]:List Value)[j]? = some v→w.cell? ⟨vb,0+j,none⟩=some v:=fun j v hj=>by
  cases j with
  | zero=>simp at hj;subst hj;unfold World.cell?;simp[hv,hx]
  | succ j=>simp at hj
 have h1v:∀ v∈([(Value.slice none 0 0)]:List Value),v.oneCell'=true:=fun v h=>by simp at h;subst h;rfl
 have hvlt:vb<w.heap.size:=(Array.getElem?_eq_some_iff.1 hv).1;have hlen:(us.take n++(Value.slice none 0 0)::us.drop n).length=us.length+1:=by simp;omega
 have zs:∀ k,(Builtin.zeroCells ((Value.slice none 0 0)).cells k).size=k:=fun k=>by simp[Builtin.zeroCells,Value.cells]
 have allocg:∀ (W:World) (o:Go.Obj) (b:Nat),b<W.heap.size→(W.alloc o).heap[b]? = W.heap[b]? := fun W o b h=>by
  show(W.heap.push o)[b]? = _;rw[Array.getElem?_push_lt h,Array.getElem?_eq_getElem h]
 have allocn:∀ (W:World) (o:Go.Obj),(W.alloc o).heap[W.heap.size]? = some o:=fun W o=>by
  show(W.heap.push o)[W.heap.size]? = _;simp
 have allocs:∀ (W:World) (o:Go.Obj),(W.alloc o).heap.size=W.heap.size+1:=fun W o=>by
  show(W.heap.push o).size=_;simp
 rcases hin with ⟨base,rfl,rfl,rfl⟩ | ⟨b,c,arr,rfl,rfl,hb,hc,hlc,hcs⟩
 ·obtain rfl:n=0:=by simpa using hn
  refine(Z84 base 0 0 vb 0 1 vc [] [(Value.slice none 0 0)] w (by decide) (by decide) (by decide) (by decide) rfl rfl (fun _=>rfl) (fun a _ j v h=>by simp at h) hvs h1v).mono ?_;rintro e w' ⟨rfl,rfl⟩;have hg:=grownCap_ge w 1 0 26;refine⟨_,rfl,⟨w.heap.size,_,_,rfl,by simpa using hg,allocn w.drew _,?_,?_,fun b' hb' _=>allocg w.drew _ b' hb',.inr (Nat.le_refl _)⟩,rfl,rfl,rfl,?_⟩
  ·rw[Array.size_append,zs];simp;omega
  ·intro j hj
   obtain rfl:j=0:=by simpa using hj
   rw[Array.getElem?_append_left (by simp)];simp
  ·rw[allocs];exact Nat.le_succ _
 ·have hbl:b<w.heap.size:=(Array.getElem?_eq_some_iff.1 hb).1
  have hvb:vb≠b:=fun e=>hne (by rw[e]);have hcell:∀ (j:Nat) (v:Value),us[j]? = some v→w.cell? ⟨b,0+j,none⟩=some v:=fun j v hj=>by
   obtain⟨h,rfl⟩:=List.getElem?_eq_some_iff.1 hj;unfold World.cell?;simp[hb,hcs j h]
  by_cases hroom:us.length+1≤c
  ·rcases Nat.lt_or_ge n us.length with hlt | hge
   ·refine(ins_shift b 0 us.length c n vb 0 1 vc us [(Value.slice none 0 0)] w hlt (by decide) hroom (by omega) hvb rfl rfl hcell (fun j hj => ?_) (fun j hj => ?_) hvs h1 h1v 26 26 varr.size arr.size ?_ ?_ (by omega) ?_ ?_).mono ?_
    ·unfold World.cell?;simp only[hb,Nat.zero_add];rw[Array.getElem?_eq_getElem (by omega)];rfl
    ·unfold World.frozen?;simp[hb]
    ·unfold World.shape?;simp[hv]
    ·unfold World.shape?;simp[hb]
    ·unfold World.frozen?;simp[hv]
    ·unfold World.frozen?;simp[hv]
    ·rintro e w' ⟨rfl,rfl⟩
     have e1:=Z37 (us.drop n) (0+(n+1)) w.drew arr hb;have hb2:(World.setBlock w.drew b (.cells (Z13 arr (0+(n+1)) (us.drop n)) 26 (0,0))).heap[b]? = some (.cells (Z13 arr (0+(n+1)) (us.drop n)) 26 (0,0)):=by
      rw[Z0d _ _ _ _ (show b<w.drew.heap.size from hbl),if_pos rfl]
     have e2:=Z37 [(Value.slice none 0 0)] (0+n) _ _ hb2;rw[e1,e2];have hs1:(World.setBlock w.drew b (.cells (Z13 arr (0+(n+1)) (us.drop n)) 26 (0,0))).heap.size=w.heap.size:=Z2a ..;refine⟨_,rfl,⟨b,c,_,by rw[hlen],by rw[hlen];exact hroom,by rw[Z0d _ _ _ _ (by rw[hs1];exact hbl),if_pos rfl],by rw[Z1d,Z1d];exact hc,?_,fun b' hb' hne' => ?_,.inl rfl⟩,rfl,rfl,rfl,?_⟩
     ·intro j hj
      rw[hlen] at hj;rw[Z1h _ _ _ _ (by rw[Z1d];simp;omega),Z1h _ _ _ _ (by simp;omega),List.getElem?_eq_getElem (by rw[hlen];exact hj) |>.symm];by_cases q1:j=n
      ·subst q1
       rw[if_pos (by simp),List.getElem?_append_right (by simp;omega)];simp[Nat.min_eq_left hn]
      ·rw[if_neg (by simp;omega)]
       by_cases q2:n<j
       ·rw[if_pos (by simp;omega),List.getElem?_append_right (by simp;omega)]
        have:(us.take n).length=n:=by simp;omega
        rw[this,show j-n=(j-(n+1))+1 by omega,List.getElem?_cons_succ];congr 1;omega
       ·rw[if_neg (by simp;omega),List.getElem?_append_left (by simp;omega),List.getElem?_take,if_pos (by omega),hcs j (by omega),List.getElem?_eq_getElem (by omega)]
     ·rw[Z0d _ _ _ _ (by rw[hs1];exact hbl),if_neg (fun e=>hne' e.symm),Z0d _ _ _ _ (show b<w.drew.heap.size from hbl),if_neg (fun e=>hne' e.symm)];rfl
     ·rw[Z2a,hs1];exact Nat.le_refl _
   ·obtain rfl:n=us.length:=by omega
    refine(ins_end_room b 0 us.length c vb 0 1 vc [(Value.slice none 0 0)] w (by decide) hroom (by omega) rfl (fun j hj => ?_) (fun j hj => ?_) hvs h1v).mono ?_
    ·unfold World.cell?;simp only[hb];rw[Array.getElem?_eq_getElem (by omega)];rfl
    ·unfold World.frozen?;simp[hb]
    ·rintro e w' ⟨rfl,rfl⟩
     rw[Z37 [(Value.slice none 0 0)] (0+us.length) w arr hb];refine⟨_,rfl,⟨b,c,_,by rw[hlen],by rw[hlen];exact hroom,by rw[Z0d _ _ _ _ hbl,if_pos rfl],by rw[Z1d];exact hc,?_,fun b' hb' hne' => ?_,.inl rfl⟩,rfl,rfl,rfl,?_⟩
     ·intro j hj
      rw[hlen] at hj;rw[Z1h _ _ _ _ (by simp;omega),List.getElem?_eq_getElem (by rw[hlen];exact hj) |>.symm];by_cases q1:j=us.length
      ·subst q1
       rw[if_pos (by simp),List.getElem?_append_right (by simp)];simp
      ·rw[if_neg (by simp;omega),List.getElem?_append_left (by simp;omega),List.getElem?_take,if_pos (by omega),hcs j (by omega),List.getElem?_eq_getElem (by omega)]
     ·rw[Z0d _ _ _ _ hbl,if_neg (fun e=>hne' e.symm)]
     ·rw[Z2a];exact Nat.le_refl _
  ·rcases Nat.lt_or_ge n us.length with hlt | hge
   ·refine(ins_grow b 0 us.length c n vb 0 1 vc us [(Value.slice none 0 0)] w hlt (by decide) hlc (by omega) hbig rfl rfl hcell hvs h1 h1v).mono ?_
    rintro e w' ⟨rfl,rfl⟩;have hg:=grownCap_ge w (us.length+1) c 26;generalize grownCap w (us.length+1) c 26=G at hg ⊢;obtain⟨ROW,hROW⟩:∃ ROW,ROW=(us.take n).toArray++Builtin.zeroCells ((Value.slice none 0 0)).cells (us.length+1-n)++Builtin.zeroCells ((Value.slice none 0 0)).cells (G-(us.length+1)):=⟨_,rfl⟩
    have hRs:ROW.size=G:=by rw[hROW,Array.size_append,Array.size_append,zs,zs];simp;omega
    have hR:∀ j,j<n→ROW[j]? = us[j]? := fun j hj=>by
     rw[hROW,Array.append_assoc,Array.getElem?_append_left (by simp;omega)];simp[List.getElem?_take,hj]
    rw[← hROW];have hn1:((w.alloc (.cells ROW 26)).drew).heap[w.heap.size]? = some (.cells ROW 26 (0,0)):=allocn w _;have e1:=Z37 [(Value.slice none 0 0)] n ((w.alloc (.cells ROW 26)).drew) ROW hn1;have hs0:((w.alloc (.cells ROW 26)).drew).heap.size=w.heap.size+1:=allocs w _;have hlt1:w.heap.size<((w.alloc (.cells ROW 26)).drew).heap.size:=by rw[hs0];exact Nat.lt_succ_self _
    have hb2:(World.setBlock ((w.alloc (.cells ROW 26)).drew) w.heap.size (.cells (Z13 ROW n [(Value.slice none 0 0)]) 26 (0,0))).drew.heap[w.heap.size]? = some (.cells (Z13 ROW n [(Value.slice none 0 0)]) 26 (0,0)):=by
     show(World.setBlock ((w.alloc (.cells ROW 26)).drew) w.heap.size _).heap[w.heap.size]? = _;rw[Z0d _ _ _ _ hlt1,if_pos rfl]
    have e2:=Z37 (us.drop n) (n+1) _ _ hb2;rw[e1,e2];have hs1:(World.setBlock ((w.alloc (.cells ROW 26)).drew) w.heap.size (.cells (Z13 ROW n [(Value.slice none 0 0)]) 26 (0,0))).drew.heap.size=w.heap.size+1:=(Z2a ..).trans hs0;have hlt2:w.heap.size<(World.setBlock ((w.alloc (.cells ROW 26)).drew) w.heap.size (.cells (Z13 ROW n [(Value.slice none 0 0)]) 26 (0,0))).drew.heap.size:=by rw[hs1];exact Nat.lt_succ_self _
    refine⟨_,rfl,⟨w.heap.size,G,_,by rw[hlen],by rw[hlen];exact hg,by rw[Z0d _ _ _ _ hlt2,if_pos rfl],by rw[Z1d,Z1d];exact hRs,?_,fun b' hb' hne' => ?_,.inr (Nat.le_refl _)⟩,rfl,rfl,rfl,?_⟩
    ·intro j hj
     rw[hlen] at hj;rw[Z1h _ _ _ _ (by rw[Z1d];simp;omega),Z1h _ _ _ _ (by simp;omega),List.getElem?_eq_getElem (by rw[hlen];exact hj) |>.symm];by_cases q2:n<j
     ·rw[if_pos (by simp;omega),List.getElem?_append_right (by simp;omega)]
      have:(us.take n).length=n:=by simp;omega
      rw[this,show j-n=(j-(n+1))+1 by omega,List.getElem?_cons_succ]
     ·rw[if_neg (by simp;omega)]
      by_cases q1:j=n
      ·subst q1
       rw[if_pos (by simp),List.getElem?_append_right (by simp;omega)];simp[Nat.min_eq_left hn]
      ·rw[if_neg (by simp;omega),List.getElem?_append_left (by simp;omega),List.getElem?_take,if_pos (by omega),hR j (by omega)]
    ·rw[Z0d          _ _ _ _ hlt2,if_neg (fun e=>hne' e.symm)]
     show(World.setBlock ((w.alloc (.cells ROW 26)).drew) w.heap.size _).heap[b']? = _;rw[Z0d _ _ _ _ hlt1,if_neg (fun e=>hne' e.symm)];exact allocg w _ b' hb'
    ·rw[Z2a,hs1];exact Nat.le_succ _
   ·obtain rfl:n=us.length:=by omega
    refine(Z84 (some ⟨b,0,none⟩) us.length c vb 0 1 vc us [(Value.slice none 0 0)] w (by decide) hlc (by omega) hbig rfl rfl (fun h=>nomatch h) (fun a ha j v h => ?_) hvs h1v).mono ?_
    ·cases ha;rw[Addr.add_lit];exact hcell j v h
    ·rintro e w' ⟨rfl,rfl⟩
     have hg:=grownCap_ge w (us.length+1) c 26;refine⟨_,rfl,⟨w.heap.size,_,_,by rw[hlen],by rw[hlen];exact hg,allocn w.drew _,?_,?_,fun b' hb' _=>allocg w.drew _ b' hb',.inr (Nat.le_refl _)⟩,rfl,rfl,rfl,?_⟩
     ·rw[Array.size_append,zs];simp;omega
     ·intro j hj
      rw[Array.getElem?_append_left (by rw[hlen] at hj;simp;omega),List.getElem?_eq_getElem hj |>.symm];simp
     ·rw[allocs];exact Nat.le_succ _
theorem ins_ok (us:List Value) (h1:∀ v∈us,v.oneCell'=true) (n:Nat) (hn:n≤us.length) (hbig:(us.length+1)*24≤140737488355328) :
  Pv.Fn Tryz.prog 51 [.own 0,iV .i64 (n:Int),.own 1] [(0,some (.row 1 26 (Z0l us))),(1,some (.row 1 26 (Z0l [(Value.slice none 0 0)])))] 2
   (fun r o=>r = .own 2∧o=[(0,none),(1,none),(2,some (.row 1 26 (Z0l (us.take n++(Value.slice none 0 0)::us.drop n))))]) :=
 ins_fn us n (Value.slice none 0 0) (fun w v0 old vb vc varr h h2 h3 h4=>ins_all us h1 n hn hbig w v0 old vb vc varr h h2 h3 h4)
end Go.Proofs
namespace Go.Pv
open Go.Instr
theorem ba_beq (a b:ByteArray):(a==b)=decide (a=b):=by
 show(a.data==b.data)=_;rw[Bool.eq_iff_iff,decide_eq_true_eq,beq_iff_eq];exact⟨fun h=>by cases a;cases b;simp at h;subst h;rfl,fun h=>by rw[h]⟩
abbrev vkS (a:ByteArray):Value:=.string a
theorem Z9l {P:Program} {t:TypeId} (ht:P.underlying t=some .string):Za3 P t vkS :=
 key_plain ht (fun b a w=>by
  have:∀ n,(checkKey b (n+1) t (.string a)).run P w = .ok () w:=fun n=>by simp[checkKey,Zl ht]
  exact this 9999) (fun a b=>by
  simp only[sameNow];congr 1;rw[ba_beq];by_cases c:b=a
  ·subst c;simp
  ·simp[c];exact fun h=>c (Eq.symm h)) (fun a=>by simp[sameBits,ba_beq])
def xLenCut:Ext where
 f P o s:=match o.op with
  | .call { callee:=.builtin .len,args:=⟨[x]⟩,argTypes:=ts }=>match ts[0]? with
   | some t=>match P.underlying t,s.eval x with
    | some (.slice _),.cut k lo n=>some ⟨[],[],.im (.sc (.int .i64 (n:Int))),[],[]⟩
    | _,_=>none
   | none=>none
  | _=>none
 ok P o s e he hp:=by
  split at he
  ·rename_i x ts ho
   split at he
   ·rename_i t hts
    split at he
    ·rename_i el k lo n hu hx
     obtain rfl:=Option.some.inj he;refine .quiet rfl fun Γ κ I s2 a w hP hr hn => ?_;have g1:=opd hr hn x (by simp[ho,Op.operands,Call.operands]) hx;have:∃ base c,a.eval x = .slice base n c:=by
      generalize a.eval x=v at g1;cases g1 with
      | cut0 base e=>exact⟨base,0,rfl⟩
      | cut e h1 h2=>exact⟨_,_,rfl⟩
     obtain⟨base,c,e⟩:=this;refine⟨.int .i64 (n:Int),?_,.im (.sc _)⟩;have:=Z70 (P:=P) hu o.type base n c w ts hts;simp[execOp,ho,resolve,invoke,builtin,e,this]
    ·simp at he
   ·simp at he
  ·simp at he
def xIdxCut (i:Nat):Ext where
 f P o s:=match o.op with
  | .indexAddr t x ix=>match Z5p   P t,s.eval x,s.eval ix with
   | some (e,sz),.cut k lo n,.im (.sc (.int _ m))=>match s.obj k with
    | some (.row sz' el es)=>match Nat.beq sz' sz with
     | true=>some ⟨[k],[],.ptr k (lo+i) 0,[],[m=(i:Int),i<n]⟩
     | false=>none
    | _=>none
   | _,_,_=>none
  | _=>none
 ok P o s e he hp:=by
  split at he
  ·rename_i t x ix ho
   split at he
   ·rename_i el sz k lo n kk m hel hx hi
    split at he
    ·rename_i sz' el' es hk
     split at he
     ·rename_i b1
      obtain rfl:=Nat.eq_of_beq_eq_true b1;obtain rfl:=Option.some.inj he;obtain⟨rfl,b2,_⟩:=hp;refine .quiet rfl fun Γ κ I s2 a w hP hr hn => ?_;have g1:=opd hr hn x (by simp[ho,Op.operands]) hx;have g2:=(opd hr hn ix (by simp[ho,Op.operands]) hi).sc_inv;have hO:=hr.inv.objs k _ ((Z1j hn k (by simp)).trans hk);generalize hv:a.eval x=v at g1;cases g1 with
      | cut0 base e=>omega
      | @cut _ _ _ off ki e h1 h2 =>
       unfold OAt at hO;rw[e] at hO;obtain⟨c1,c2,c3,_⟩:=hO;have hoff:off=lo*ki.sz:=by
        rcases h1 with h | h
        ·exact h
        ·omega
       subst hoff;have hrun:=Z5d (P:=P) hel (k:=kk) (i:=(i:Int)) (b:=ki.b) (off:=lo*ki.sz) (len:=n) (cap:=ki.cap-lo) (by omega) (by omega) w;refine⟨.pointer (some ⟨ki.b,lo*ki.sz+i*sz',none⟩),?_,?_⟩
       ·rw[Int.toNat_natCast] at hrun
        simp only[execOp,ho,hv,g2,Sem.run_bind,hrun,Result.andThen_ok,Sem.run_pure]
       ·have:=Rep.ptr (w:=w) (I:=I) (e:=lo+i) (j:=0) e
        rw[c1] at this ⊢;rw[Nat.add_mul,Nat.add_zero] at this;simpa[mkSp] using this
     ·simp at he
    ·simp at he
   ·simp at he
  ·simp at he
end Go.Pv
namespace Go.Pv
theorem OpOK.frozenG {P:Program} {o:Oper} {s:Z0} {keys news ids:List Nat} {res:AVal} {post:List (Nat×Option MObj)} {k sz el:Nat} {es:List (List Im)} (h:OpOK P o (mkSp s o keys news res post))
  (hk:look post k=some (some (.row sz el es))):OpOK P o (mkSp s o keys news (pass (ids.map fun q=>(q,q)) [(k,es)] res) ((k,none)::post)):=by
 intro Γ hP hd s2 a w hs hn hf K Q hK;refine h Γ hP hd s2 a w hs hn hf K Q (fun a' w' hs'=>hK a' w' ?_);obtain⟨κ,I,hr⟩:=hs';have hact:∀ (res:AVal) (post:List (Nat×Option MObj)) (q:Nat),((mkSp s o keys news res post).act o.dst s2).obj q=(s2.objput post).obj q:=fun res post q=>Z0.obj_put _ _ _ _
 have hobjk:((mkSp s o keys news res post).act o.dst s2).obj k=some (.row sz el es):=by
  rw[hact];show(look (post++s2.objs) k).getD none=_;rw[Z42,hk];rfl
 have hO:=hr.inv.objs k _ hobjk
 let I':Nat→Prop:=fun b=>I b∨∃ ki,κ k=some ki∧ki.b=b
 have hI:∀ b,I b→I' b:=fun b h=>.inl h
 have hold:∀ k' q,((mkSp s o keys news (pass (ids.map fun q=>(q,q)) [(k,es)] res) ((k,none)::post)).act o.dst s2).obj k'=some q→k'≠k∧((mkSp s o keys news res post).act o.dst s2).obj k'=some q:=by
  intro k' q hq;rw[hact] at hq ⊢;change (look ((k,none)::(post++s2.objs)) k').getD none=_ at hq;change _∧(look (post++s2.objs) k').getD none=_;rw[Z0n] at hq;by_cases e:k=k'
  ·rw[if_pos e] at hq;simp at hq
  ·rw[if_neg e] at hq;exact⟨fun h=>e h.symm,hq⟩
 have hnot:∀ k' q ki ki',k'≠k→((mkSp s o keys news res post).act o.dst s2).obj k'=some q→κ k'=some ki'→κ k=some ki→ki'.b≠ki.b:=by
  intro k' q ki ki' hne hq e1 e2 hb;exact hne (hr.inv.inj k' k q _ ki' ki hq hobjk e1 e2 hb)
 refine⟨κ,I',hr.size,hr.defers,fun x => ?_,?_,?_,?_,?_,hr.inv.keep,fun b h=>.inl (hr.inv.ikeep b h),?_,?_,?_⟩
 ·have g:=hr.slots x
  revert g;simp only[Sp.act,mkSp];cases o.dst with
  | none=>exact fun g=>g.mono hI (fun _ _=>rfl) (fun _ _=>rfl)
  | some d =>
   rw[Z0.get_put,Z0.get_put];by_cases e:d=x
   ·rw[if_pos e,if_pos e]
    intro g;exact Z21 (I':=I') (κc:=κ) (inv:=ids.map fun q=>(q,q)) (views:=[(k,es)]) hI (by
     intro a b h;obtain⟨p,hp,e⟩:=List.mem_map.1 (Z1i h);simp at e;obtain⟨rfl,rfl⟩:=e;rfl) (fun k' es' h=>by
     rw[Z0n] at h;split at h
     ·rename_i e';subst e';simp at h;subst h
      exact⟨⟨sz,el,hO⟩,fun ki e=>.inr ⟨ki,e,rfl⟩⟩
     ·simp[look] at h) g
   ·rw[if_neg e,if_neg e]
    exact fun g=>g.mono hI (fun _ _=>rfl) (fun _ _=>rfl)
 ·intro k' q hq
  obtain⟨hne,hq⟩:=hold k' q hq;have:=hr.inv.objs k' q hq;unfold OAt at this ⊢;cases e:κ k' with
  | none=>rw[e] at this;exact this
  | some ki=>rw[e] at this;exact this.mono hI (fun _ _=>rfl) rfl (fun _ _=>rfl)
 ·intro q1 q2 o1 o2 ki1 ki2 h1 h2 f1 f2 hb
  exact hr.inv.inj q1 q2 o1 o2 ki1 ki2 (hold q1 o1 h1).2 (hold q2 o2 h2).2 f1 f2 hb
 ·intro q o' ki hq f hIb
  obtain⟨hne,hq⟩:=hold q o' hq;rcases hIb with hIb | ⟨ki',e1,e2⟩
  ·exact hr.inv.disj q o' ki hq f hIb
  ·exact hnot q o' ki' ki hne hq f e1 e2.symm
 ·intro b hIb
  rcases hIb with hIb | ⟨ki,e1,rfl⟩
  ·exact hr.inv.bound b hIb
  ·have:=hO
   simp only[OAt,e1] at this;obtain⟨_,_,_,arr,h3,_⟩:=this;exact(Array.getElem?_eq_some_iff.1 h3).1
 ·intro b hIb
  rcases hIb with hIb | ⟨ki,e1,rfl⟩
  ·exact hr.inv.fromI b hIb
  ·rcases hr.inv.fromO k _ ki hobjk e1 with h | h
   ·exact .inr (.inl h)
   ·exact .inr (.inr h)
 ·intro q o' ki hq f
  exact hr.inv.fromO q o' ki (hold q o' hq).2 f
 ·intro q hq
  refine hr.inv.fix q ?_;have e1:((mkSp s o keys news (pass (ids.map fun q=>(q,q)) [(k,es)] res) ((k,none)::post)).act o.dst s2).floor=s2.floor:=by cases o.dst<;>rfl
  have e2:((mkSp s o keys news res post).act o.dst s2).floor=s2.floor:=by cases o.dst<;>rfl
  rw[e1] at hq;rw[e2];exact hq
def xFzG (k:Nat) (ids:List Nat) (h:Hint):Ext where
 f P o s:=match Zar    P h o s with
  | some e=>match look e.post k with
   | some (some (.row sz el es))=>some ⟨e.keys,e.news,pass (ids.map fun q=>(q,q)) [(k,es)] e.res,(k,none)::e.post,e.props⟩
   | _=>none
  | none=>none
 ok P o s e he hp:=by
  split at he
  ·rename_i e0 h0
   split at he
   ·rename_i sz el es hl
    obtain rfl:=Option.some.inj he;exact(Z7e h0 hp).frozenG hl
   ·simp at he
  ·simp at he
end Go.Pv
