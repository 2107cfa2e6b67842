import Derived.Laws.IdiomCopy
import Derived.Lib.ConvBytes
import Derived.Test.YtpoihfcehejgfaaGreatPxBlockReads04
set_option linter.unusedVariables false
set_option linter.unusedSimpArgs false
namespace Go.Pv
structure Gh where
 B:List Nat
 G:World→(Nat→Prop)→Prop
 mono:∀ (w w':World) (I I':Nat→Prop),(∀ b∈B,w'.heap[b]? = w.heap[b]?)→(∀ b,I b→I' b)→(∀ b,I b→w'.heap[b]? = w.heap[b]?)→G w I→G w' I'
structure GInv (Γ:Ctx) (κ:Nat→Option KI) (I:Nat→Prop) (s:Z1) (g:Gh) (w:World):Prop where
 holds:g.G w I
 size:∀ b∈g.B,b<w.heap.size
 dis:∀ b∈g.B,¬ I b
 obj:∀ b∈g.B,∀ k o ki,s.obj k=some o→κ k=some ki→ki.b≠b
 new:∀ b∈g.B,Γ.M0 b∨Γ.w0.heap.size≤b
def GSat (Γ:Ctx) (s:Z1) (g:Gh) (a:Act) (w:World):Prop:=∃ κ I,Rel Γ κ I s a w∧GInv Γ κ I s g w
def GWp (Γ:Ctx) (c:Code) (Q:Exit→Z1→Gh→Prop) (s:Z1) (g:Gh):Prop :=
 ∀ a w,GSat Γ s g a w→c.wp Γ.P (fun e a' w'=>∃ s' g',GSat Γ s' g' a' w'∧Q e s' g') a w
def GCv (Γ:Ctx) (s:Z1) (g:Gh) (s':Z1) (g':Gh):Prop:=∀ a w,GSat Γ s g a w→GSat Γ s' g' a w
theorem GWp.mono {Γ:Ctx} {c:Code} {Q Q':Exit→Z1→Gh→Prop} {s:Z1} {g:Gh} (h:GWp Γ c Q s g) (hq:∀ e s g,Q e s g→Q' e s g):GWp Γ c Q' s g :=
 fun a w hs=>Code.wp_mono (fun e a w ⟨s',g',h1,h2⟩=>⟨s',g',h1,hq _ _ _ h2⟩) (h a w hs)
theorem GWp.cv {Γ:Ctx} {c:Code} {Q:Exit→Z1→Gh→Prop} {s s':Z1} {g g':Gh} (hc:GCv Γ s g s' g') (h:GWp Γ c Q s' g'):GWp Γ c Q s g:=fun a w hs=>h a w (hc a w hs)
theorem GWp.ex {Γ:Ctx} {c:Code} {Q:Exit→Z1→Gh→Prop} {s:Z1} {g:Gh} {α:Type} {S:α→Z1} {G:α→Gh} (hc:∀ a w,GSat Γ s g a w→∃ x,GSat Γ (S x) (G x) a w) (h:∀ x,GWp Γ c Q (S x) (G x)):GWp Γ c Q s g :=
 fun a w hs=>let ⟨x,hx⟩:=hc a w hs;h x a w hx
theorem GWp.skip {Γ:Ctx} {Q:Exit→Z1→Gh→Prop} {s:Z1} {g:Gh} (h:Q .normal s g):GWp Γ .skip Q s g:=fun a w hs=>wp_skip ⟨s,g,hs,h⟩
theorem GWp.exit {Γ:Ctx} {Q:Exit→Z1→Gh→Prop} {s:Z1} {g:Gh} {id:Nat} (h:Q (.exit id) s g):GWp Γ (.exit id) Q s g:=fun a w hs=>wp_exit ⟨s,g,hs,h⟩
theorem GWp.ret {Γ:Ctx} {Q:Exit→Z1→Gh→Prop} {s:Z1} {g:Gh} (h:Q .ret s g):GWp Γ .ret Q s g:=fun a w hs=>wp_ret ⟨s,g,hs,h⟩
def gseqQ (next:Z1→Gh→Prop) (Q:Exit→Z1→Gh→Prop):Exit→Z1→Gh→Prop
 | .normal,s,g=>next s g
 | e,s,g=>Q e s g
theorem GWp.seq {Γ:Ctx} {x y:Code} {Q:Exit→Z1→Gh→Prop} {s:Z1} {g:Gh} (h:GWp Γ x (gseqQ (GWp Γ y Q) Q) s g):GWp Γ (.seq x y) Q s g:=fun a w hs =>
 wp_seq (Code.wp_mono (fun e a w ⟨s',g',h1,h2⟩=>by
  cases e with
  | normal=>exact h2 a w h1
  | _=>exact⟨s',g',h1,h2⟩) (h a w hs))
def gblockQ (id:Nat) (Q:Exit→Z1→Gh→Prop):Exit→Z1→Gh→Prop
 | .exit i,s,g=>if i=id then Q .normal s g else Q (.exit i) s g
 | e,s,g=>Q e s g
theorem GWp.block {Γ:Ctx} {id:Nat} {c:Code} {Q:Exit→Z1→Gh→Prop} {s:Z1} {g:Gh} (h:GWp Γ c (gblockQ id Q) s g):GWp Γ (.block id c) Q s g:=fun a w hs =>
 wp_block (Code.wp_mono (fun e a w ⟨s',g',h1,h2⟩=>by
  cases e with
  | exit i=>simp only[Exit.inBlock];simp only[gblockQ] at h2;split<;>simp_all<;>exact⟨s',g',h1,h2⟩
  | _=>exact⟨s',g',h1,h2⟩) (h a w hs))
theorem GWp.cond {Γ:Ctx} {c:Operand} {x y:Code} {Q:Exit→Z1→Gh→Prop} {s:Z1} {g:Gh} (b:Bool) (hb:s.eval c = .im (.sc (.bool b))) (ht:b=true→GWp Γ x Q s g) (hf:b=false→GWp Γ y Q s g):GWp Γ (.cond c x y) Q s g:=fun a w hs=>by
 obtain⟨κ,I,hr,hg⟩:=hs;have hc:a.eval c = .bool b:=(hb ▸ hr.eval c).sc_inv;exact wp_cond_split hc (fun h=>ht h a w ⟨κ,I,hr,hg⟩) (fun h=>hf h a w ⟨κ,I,hr,hg⟩)
def GLWp (Γ:Ctx) (c:Code) (Q:Exit→Z1→Gh→Prop) (s:Z1) (g:Gh):Prop :=
 ∀ a w,GSat Γ s g a w→∀ (b:Frame) (k:List Go.Item) (cs:List Frame),
  ∃ e a' w',(∃ s' g',GSat Γ s' g' a' w'∧Q e s' g')∧Arrives Γ.P (lone (b.at a (.code c :: .inLoop c::k)) cs w) b k cs e a' w'
theorem GLWp.round {Γ:Ctx} {c:Code} {Q:Exit→Z1→Gh→Prop} {s:Z1} {g:Gh} (h:GWp Γ c (gseqQ (GLWp Γ c Q) Q) s g):GLWp Γ c Q s g:=by
 intro a w hs b k cs;obtain⟨e,a₁,w₁,⟨s',g',h1,h2⟩,harr⟩:=h a w hs b (.inLoop c::k) cs;cases e with
 | normal =>
  obtain⟨e₂,a₂,w₂,hq₂,harr₂⟩:=h2 a₁ w₁ h1 b k cs;exact⟨e₂,a₂,w₂,hq₂,.of_steps (Steps.trans harr (.one step_inLoop)) harr₂⟩
 | exit id=>exact⟨_,a₁,w₁,⟨s',g',h1,h2⟩,.pass (x:=.inLoop c) rfl (fun _ _=>.inl (by simp)) harr⟩
 | goto l=>exact⟨_,a₁,w₁,⟨s',g',h1,h2⟩,.pass (x:=.inLoop c) rfl (fun _ _=>.inl (by simp)) harr⟩
 | ret=>exact⟨_,a₁,w₁,⟨s',g',h1,h2⟩,.pass (x:=.inLoop c) rfl (fun _ _=>.inl (by simp)) harr⟩
 | panic ch=>exact⟨_,a₁,w₁,⟨s',g',h1,h2⟩,.pass (x:=.inLoop c) rfl (fun _ _=>.inl (by simp)) harr⟩
 | outgrown=>exact⟨_,a₁,w₁,⟨s',g',h1,h2⟩,.pass (x:=.inLoop c) rfl (fun _ _=>.inl (by simp)) harr⟩
theorem GWp.loop {Γ:Ctx} {c:Code} {Q:Exit→Z1→Gh→Prop} {s:Z1} {g:Gh} (h:GLWp Γ c Q s g):GWp Γ (.loop c) Q s g:=fun a w hs b k cs =>
 let ⟨e,a',w',hq,harr⟩:=h a w hs b k cs
 ⟨e,a',w',hq,.of_steps (.one step_loop) harr⟩
theorem GLWp.ex {Γ:Ctx} {c:Code} {Q:Exit→Z1→Gh→Prop} {s:Z1} {g:Gh} {α:Type} {S:α→Z1} {G:α→Gh} (hc:∀ a w,GSat Γ s g a w→∃ x,GSat Γ (S x) (G x) a w) (h:∀ x,GLWp Γ c Q (S x) (G x)):GLWp Γ c Q s g :=
 fun a w hs=>let ⟨x,hx⟩:=hc a w hs;h x a w hx
theorem ORep.lt {w:World} {I:Nat→Prop} {κ:Nat→Option KI} {ki:KI} {o:MObj} (h:ORep w I κ ki o):ki.b<w.heap.size:=by
 have key:∀ x,w.heap[ki.b]? = some x→ki.b<w.heap.size:=fun x e=>(Array.getElem?_eq_some_iff.1 e).1
 cases o with
 | row sz el es=>obtain⟨_,_,_,arr,h3,_⟩:=h;exact key _ h3
 | box el cells=>obtain⟨_,_,arr,h3,_⟩:=h;exact key _ h3
 | map es=>obtain⟨arr,h1,_⟩:=h;exact key _ h1
 | iter m n sn=>obtain⟨bm,h1,_⟩:=h;exact key _ h1
 | arow sz el es fs=>obtain⟨_,_,_,arr,h3,_⟩:=h;exact key _ h3
theorem GWp.frame {Γ:Ctx} {c:Code} {Q:Exit→Z1→Gh→Prop} {s:Z1} {g:Gh} (h:∀ Γ':Ctx,Γ'.P=Γ.P→Γ'.n=Γ.n→AWp Γ' c (fun e s'=>s'.floor=s.floor∧Q e s' g) s):GWp Γ c Q s g:=by
 rintro a w ⟨κ,I,hr,hg⟩;have hdis:∀ b,I b→¬ Z6r κ s b:=fun b hb ⟨k,o,ki,h1,h2,h3⟩=>hr.inv.disj k o ki h1 h2 (h3 ▸ hb)
 have glob:Zej Γ.P I (Z6r κ s) w:=fun x cs e=>by
  obtain⟨h1,h2,h3⟩:=hr.inv.tab e;exact⟨h1,hdis x h1,h2,h3⟩
 let Γ':Ctx := { P:=Γ.P,n:=Γ.n,w0:=w,I0:=I,M0:=Z6r κ s,κ0:=κ,glob:=glob }
 have sat:Sat Γ' s a w:=⟨κ,I,hr.size,hr.defers,hr.slots,hr.inv.objs,hr.inv.inj,hr.inv.disj,hr.inv.bound,Zbb.refl _ _,fun _ h=>h,fun b h=>.inl h,fun k o ki h1 h2=>.inl ⟨k,o,ki,h1,h2,rfl⟩,fun k hk=>rfl⟩
 refine Code.wp_mono (fun e a' w' ⟨s',h1,hfl,h2⟩ => ?_) (h Γ' rfl rfl a w sat);obtain⟨κ',I',r'⟩:=h1;have hsz:w.heap.size≤w'.heap.size:=r'.inv.keep.size;have fromM:∀ b,Z6r κ s b→Γ.M0 b∨Γ.w0.heap.size≤b:=fun b ⟨k,o,ki,h1,h2,h3⟩=>h3 ▸ hr.inv.fromO k o ki h1 h2
 have old:∀ b,b<w.heap.size→¬ Z6r κ s b→w'.heap[b]? = w.heap[b]? := fun b hb hn=>r'.inv.keep.block b hb hn
 have gnot:∀ b∈g.B,¬ Z6r κ s b:=fun b hb ⟨k,o,ki,h1,h2,h3⟩=>hg.obj b hb k o ki h1 h2 h3
 refine⟨s',g,⟨κ',I',⟨r'.size,r'.defers,r'.slots,r'.inv.objs,r'.inv.inj,r'.inv.disj,r'.inv.bound,?_,?_,?_,?_,?_⟩,?_,?_,?_,?_,hg.new⟩,h2⟩
 ·refine hr.inv.keep.trans r'.inv.keep (fun b hb hm => ?_)
  rcases fromM b hm with h | h
  ·exact h
  ·omega
 ·exact fun b hb=>r'.inv.ikeep b (hr.inv.ikeep b hb)
 ·intro b hb
  rcases r'.inv.fromI b hb with h | h | h
  ·exact hr.inv.fromI b h
  ·exact .inr (fromM b h)
  ·exact .inr (.inr (Nat.le_trans hr.inv.keep.size h))
 ·intro k o ki h1 h2
  rcases r'.inv.fromO k o ki h1 h2 with h | h
  ·exact fromM _ h
  ·exact .inr (Nat.le_trans hr.inv.keep.size h)
 ·intro k hk
  exact(r'.inv.fix k hk).trans (hr.inv.fix k (hfl ▸ hk))
 ·exact g.mono w w' I I' (fun b hb=>old b (hg.size b hb) (gnot b hb)) (fun b hb=>r'.inv.ikeep b hb) (fun b hb=>old b (hr.inv.bound b hb) (hdis b hb)) hg.holds
 ·exact fun b hb=>Nat.lt_of_lt_of_le (hg.size b hb) hsz
 ·intro b hb hI
  rcases r'.inv.fromI b hI with h | h | h
  ·exact hg.dis b hb h
  ·exact gnot b hb h
  ·exact absurd (hg.size b hb) (Nat.not_lt.2 h)
 ·intro b hb k o ki h1 h2 e
  rcases r'.inv.fromO k o ki h1 h2 with h | h
  ·exact gnot b hb (e ▸ h)
  ·have:=hg.size b hb;rw[e] at h;exact absurd this (Nat.not_lt.2 h)
def NAt (w:World) (I:Nat→Prop) (sz el:Nat) (v:Value) (es:List (List Im)) (B:List Nat):Prop :=
 (∃ base,v = .slice base 0 0∧es=[]∧B=[])∨∃ ki:KI,B=[ki.b]∧v = .slice (some ⟨ki.b,0,none⟩) ki.len ki.cap∧ORep w I (fun _=>none) ki (.row sz el es)
theorem NAt.mono {w w':World} {I I':Nat→Prop} {sz el:Nat} {v:Value} {es:List (List Im)} {B:List Nat} (h:NAt w I sz el v es B) (hB:∀ b∈B,w'.heap[b]? = w.heap[b]?) (hI:∀ b,I b→I' b) (hw:∀ b,I b→w'.heap[b]? = w.heap[b]?):NAt w' I' sz el v es B:=by
 rcases h with h | ⟨ki,rfl,h2,h3⟩
 ·exact .inl h
 ·exact .inr ⟨ki,rfl,h2,h3.mono hI hw (hB _ (by simp)) (fun _ _=>rfl)⟩
def nest (sz el:Nat) (u:List Value) (gs:List (List (List Im))) (Bs:List (List Nat)):Gh where
 B:=Bs.flatten
 G w I:=u.length=gs.length∧Bs.length=gs.length∧Bs.flatten.Nodup∧∀ i (h:i<gs.length) (h1:i<u.length) (h2:i<Bs.length),NAt w I sz el u[i] gs[i] Bs[i]
 mono w w' I I' hB hI hw h:=⟨h.1,h.2.1,h.2.2.1,fun i h0 h1 h2=>(h.2.2.2 i h0 h1 h2).mono (fun b hb=>hB b (List.mem_flatten.2 ⟨_,List.getElem_mem h2,hb⟩)) hI hw⟩
theorem flat_set_mem {Bs:List (List Nat)} {i:Nat} {x:List Nat} {b:Nat} (h:b∈(Bs.set i x).flatten):b∈Bs.flatten∨b∈x:=by
 obtain⟨l,hl,hb⟩:=List.mem_flatten.1 h;rcases List.mem_or_eq_of_mem_set hl with h | rfl
 ·exact .inl (List.mem_flatten.2 ⟨l,h,hb⟩)
 ·exact .inr hb
theorem Z94 {α:Type} (l:List α) (i:Nat) (h:i<l.length) (x:α):l=l.take i++l[i]::l.drop (i+1)∧l.set i x=l.take i++x::l.drop (i+1):=by
 refine⟨by simp,?_⟩;rw[List.set_eq_take_append_cons_drop,if_pos h]
theorem flat_nil {Bs:List (List Nat)} {i:Nat} (h:i<Bs.length) (hn:Bs.flatten.Nodup):(Bs.set i []).flatten.Nodup∧∀ b∈Bs[i],b ∉ (Bs.set i []).flatten:=by
 obtain⟨e1,e2⟩:=Z94 Bs i h [];rw[e1] at hn;rw[e2];simp only[List.flatten_append,List.flatten_cons,List.nil_append] at hn ⊢;rw[List.nodup_append] at hn;obtain⟨h1,h2,h3⟩:=hn;rw[List.nodup_append] at h2;refine⟨List.nodup_append.2 ⟨h1,h2.2.1,fun a ha b hb=>h3 a ha b (List.mem_append_right _ hb)⟩,fun b hb hc => ?_⟩;rcases List.mem_append.1 hc with hc | hc
 ·exact h3 b hc b (List.mem_append_left _ hb) rfl
 ·exact h2.2.2 b hb b hc rfl
def Z9e (u:List Value):List (List Im):=u.map fun v=>[.sc v]
theorem Zf6 (u:List Value) (j:Nat) (h:j<(Z9e u).length):(Z9e u)[j]=[.sc (u[j]'(by simpa[Z9e] using h))]:=by simp[Z9e]
theorem ORep.data {w:World} {I:Nat→Prop} {κ:Nat→Option KI} {ki:KI} {sz el:Nat} {es:List (List Im)} (h:ORep w I κ ki (.row sz el es)) {I':Nat→Prop} (hI:∀ b,I b→I' b) (hb:I' ki.b):IRep w I' (.row es) (.slice (some ⟨ki.b,0,none⟩) ki.len ki.cap):=by
 obtain⟨h1,h2,h3,arr,h4,h5,h6⟩:=h;refine .row (sz:=sz) (fun i j=>(arr[i*sz+j]?).getD undef) h2 hb (by rw[h2];exact h3) (fun i h=>(h6 i h).1) (fun i j hi hj => ?_) (fun i hi j hj => ?_)
 ·obtain⟨e1,e2⟩:=h6 i hi
  obtain⟨v,e3,_⟩:=e2 j (by rw[e1];exact hj);unfold World.cell?;simp only[h4,Nat.zero_add,e3];rfl
 ·obtain⟨e1,e2⟩:=h6 i hi
  obtain⟨v,e3,e4⟩:=e2 j hj;rw[e3];exact e4.mono hI (fun _ _=>rfl)
theorem freeze {Γ:Ctx} {s:Z1} {u:List Value} {gs:List (List (List Im))} {Bs:List (List Nat)} {sz el k5 e5 x:Nat} (h5:s.obj k5=some (.row 1 e5 (Z9e u))) (hx:s.get x = .own k5) (a:Act) (w:World) (hs:GSat Γ s (nest sz el u gs Bs) a w):Sat Γ ⟨[(x,.im (.row (gs.map fun es=>[.row es])))],[],s.floor⟩ a w:=by
 obtain⟨κ,I,hr,hg⟩:=hs;obtain⟨hu,hB,hnd,hat⟩:=hg.holds
 let I':Nat→Prop:=fun b=>I b∨(∃ ki,κ k5=some ki∧b=ki.b)∨b∈Bs.flatten
 have hI:∀ b,I b→I' b:=fun b h=>.inl h
 have no:∀ k o,(⟨[(x,.im (.row (gs.map fun es=>[.row es])))],[],s.floor⟩:Z1).obj k=some o→False:=fun k o h=>by simp[Z1.obj,look] at h
 have h0:=hr.inv.objs _ _ h5;refine⟨κ,I',hr.size,hr.defers,fun y => ?_,fun k o h=>(no k o h).elim,fun k k' o o' ki ki' h=>(no k o h).elim,fun k o ki h=>(no k o h).elim,?_,hr.inv.keep,fun b h=>.inl (hr.inv.ikeep b h),?_,fun k o ki h=>(no k o h).elim,hr.inv.fix⟩
 ·show Rep w I' κ ((look [(x,AVal.im (.row (gs.map fun es=>[.row es])))] y).getD .top) _
  rw[Z1m];by_cases e:x=y
  ·subst e
   rw[if_pos rfl];have hv:=hr.slots x;rw[hx] at hv;unfold OAt at h0;refine .im ?_;generalize a.tmps.getD x undef=val at hv ⊢;cases hv with
   | own0 base e =>
    rw[e] at h0;obtain⟨_,_,h0⟩:=h0;simp at h0;have:u=[]:=by simpa[Z9e] using h0.2.2
    have:gs=[]:=List.length_eq_zero_iff.1 (by rw[← hu,this];rfl);rw[this];exact .row0 base 0
   | own e =>
    rename_i ki;rw[e] at h0;obtain⟨g1,g2,g3,arr,g4,g5,g6⟩:=h0;have hlen:(Z9e u).length=gs.length:=by simp[Z9e,hu]
    have hcell:∀ i (h:i<u.length),arr[i]? = some u[i]:=fun i h=>by
     obtain⟨_,q⟩:=g6 i (by simpa[Z9e] using h);obtain⟨v,e1,e2⟩:=q 0 (by rw[Zf6];simp);have:(Z9e u)[i][0]'(by rw[Zf6];simp) = .sc u[i]:=by simp[Z9e]
     rw[this] at e2;cases e2;simpa using e1
    refine .row (sz:=1) (fun i _=>(arr[i]?).getD undef) (by simp[g2,hlen]) (.inr (.inl ⟨ki,e,rfl⟩)) (by rw[g2];exact g3) (fun i h=>by simp) (fun i j hi hj => ?_) (fun i hi j hj => ?_)
    ·obtain rfl:j=0:=by omega
     have hi':i<u.length:=by simpa[hu] using hi
     unfold World.cell?;simp only[g4,Nat.zero_add,Nat.mul_one,Nat.add_zero,hcell i hi'];rfl
    ·have hi':i<gs.length:=by simpa using hi
     obtain rfl:j=0:=by simp at hj;exact hj
     rw[hcell i (by omega)];simp only[List.getElem_map,List.getElem_cons_zero,Option.getD_some];rcases hat i hi' (by omega) (by omega) with ⟨base,e1,e2,e3⟩ | ⟨kj,e1,e2,e3⟩
     ·rw[e1,e2];exact .row0 base 0
     ·rw[e2];exact e3.data hI (.inr (.inr (List.mem_flatten.2 ⟨Bs[i]'(by omega),List.getElem_mem _,by rw[e1];simp⟩)))
  ·rw[if_neg e];exact .top _
 ·intro b hb
  rcases hb with h | ⟨ki,e,rfl⟩ | h
  ·exact hr.inv.bound b h
  ·unfold OAt at h0;rw[e] at h0;exact h0.lt
  ·exact hg.size b h
 ·intro b hb
  rcases hb with h | ⟨ki,e,rfl⟩ | h
  ·exact hr.inv.fromI b h
  ·exact .inr (hr.inv.fromO k5 _ ki h5 e)
  ·exact .inr (hg.new b h)
structure InsOut (w w':World) (el:Nat) (us:List Value) (old:Option Nat) (v:Value):Prop where
 out:∃ nb cap arr,v = .slice (some ⟨nb,0,none⟩) us.length cap∧us.length≤cap∧w'.heap[nb]? = some (.cells arr el (0,0))∧arr.size=cap∧(∀ j (h:j<us.length),arr[j]? = some us[j]) ∧
  (∀ b,b<w.heap.size→b≠nb→w'.heap[b]? = w.heap[b]?)∧(old=some nb∨w.heap.size≤nb)
 os:w'.os=w.os
 tape:w'.tape=w.tape
 output:w'.output=w.output
 size:w.heap.size≤w'.heap.size
def LAw (Γ:Ctx) (l:List Oper) (Q:Z1→Prop) (s:Z1):Prop:=∀ a w,Sat Γ s a w→wpList Γ.P l.toArray (fun e a' w'=>e = .normal∧∃ s',Sat Γ s' a' w'∧Q s') l a w
theorem LAw.run {P:Program} {n:Nat} {Γ:Ctx} (hP:Γ.P=P) (hn:Γ.n=n) {Q:Z1→Prop} {s:Z1} {ops:List Oper} (hints:List (Nat×Hint)) (ch:List (Nat×AVal)) (live:List Nat) (oc:List (Nat×Option MObj)) (keeps:List Nat) (ps:List Prop) (hp:AllP ps) (hq:Q (up s ch live oc keeps)) (h:Z4g P n false ops hints live keeps s=some (up s ch live oc keeps,ps):=by kernel_rfl):LAw Γ ops Q s:=by
 subst hP;subst hn;unfold Z4g at h;split at h
 ·rename_i its s2 ps2 hr
  simp only[Option.some.injEq,Prod.mk.injEq] at h;obtain⟨e1,rfl⟩:=h;obtain⟨g1,g2,g3,g4⟩:=Zdd hr hp;intro a w hs;have hl:∀ it∈its,∀ d,it.1.dst=some d→d<Γ.n:=by
   intro it hit d e;have:=List.all_eq_true.1 g4 it hit;rw[e] at this;simpa[Nat.blt_eq] using this
  have hnn:∀ (j:Nat) (o':Oper),ops.toArray[j]? = some o'→∀ d,o'.dst=some d→d<Γ.n:=by
   intro j o' ho d e;have:o'∈its.map (·.1):=by
    have:=Array.mem_of_getElem? ho;rw[g1];simpa using this
   obtain⟨it,hit,rfl⟩:=List.mem_map.1 this;exact hl it hit d e
  have:=wp_items (Γ:=Γ) (ops:=ops.toArray) (Q:=fun e a' w'=>e = .normal∧∃ s',Sat Γ s' a' w'∧Q s') hnn its hl s a w hs g2 (fun a' w' h=>⟨rfl,_,Zc9 (g3 ▸ h) live keeps,by rw[e1];exact hq⟩);rw[g1] at this;exact this
 ·simp at h
theorem GWp.post {Γ:Ctx} {c:Code} {Q:Exit→Z1→Gh→Prop} {s:Z1} {g:Gh} (h:GWp Γ c (fun e s' g'=>∀ a w,GSat Γ s' g' a w→∃ s2 g2,GSat Γ s2 g2 a w∧Q e s2 g2) s g):GWp Γ c Q s g :=
 fun a w hs=>Code.wp_mono (fun e a w ⟨s',g',h1,h2⟩=>h2 a w h1) (h a w hs)
theorem GLWp.mono {Γ:Ctx} {c:Code} {Q Q':Exit→Z1→Gh→Prop} {s:Z1} {g:Gh} (h:GLWp Γ c Q s g) (hq:∀ e s g,Q e s g→Q' e s g):GLWp Γ c Q' s g :=
 fun a w hs b k cs=>let ⟨e,a',w',⟨s',g',h1,h2⟩,h3⟩:=h a w hs b k cs;⟨e,a',w',⟨s',g',h1,hq _ _ _ h2⟩,h3⟩
theorem GWp.loopB {Γ:Ctx} {c:Code} {Q:Exit→Z1→Gh→Prop} {s:Z1} {g:Gh} (h:∀ c',c'=c→GLWp Γ c' Q s g):GWp Γ (.loop c) Q s g:=GWp.loop (h c rfl)
theorem gR {P:Program} {n:Nat} {Γ:Ctx} (hP:Γ.P=P) (hn:Γ.n=n) (hm:P.follows .mixedOrders=true) {id:Nat} {draw:Bool} {Q:Exit→Z1→Gh→Prop} {s:Z1} {g:Gh} {ops:List Oper} (hints:List (Nat×Hint)) (ch:List (Nat×AVal)) (live:List Nat) (oc:List (Nat×Option MObj)) (keeps:List Nat) (ps:List Prop) (hp:AllP ps) (hq:Q .normal (up s ch live oc keeps) g) (h:Z4g P n draw ops hints live keeps s=some (up s ch live oc keeps,ps):=by kernel_rfl):GWp Γ (.region id ops.toArray draw) Q s g:=GWp.frame fun Γ' e1 e2=>rG (e1.trans hP) (e2.trans hn) hm hints ch live oc keeps ps hp ⟨rfl,hq⟩ h
theorem gS {P:Program} {n:Nat} {Γ:Ctx} (hP:Γ.P=P) (hn:Γ.n=n) (hm:P.follows .mixedOrders=true) {id:Nat} {draw:Bool} {y:Code} {Q:Exit→Z1→Gh→Prop} {s:Z1} {g:Gh} {ops:List Oper} (hints:List (Nat×Hint)) (ch:List (Nat×AVal)) (live:List Nat) (oc:List (Nat×Option MObj)) (keeps:List Nat) (ps:List Prop) (hp:AllP ps) (hq:GWp Γ y Q (up s ch live oc keeps) g) (h:Z4g P n draw ops hints live keeps s=some (up s ch live oc keeps,ps):=by kernel_rfl):GWp Γ (.seq (.region id ops.toArray draw) y) Q s g:=GWp.seq (gR hP hn hm hints ch live oc keeps ps hp hq h)
theorem gK {P:Program} {n:Nat} {Γ:Ctx} (hP:Γ.P=P) (hn:Γ.n=n) (hm:P.follows .mixedOrders=true) {id:Nat} {draw:Bool} {Q:Exit→Z1→Gh→Prop} {s:Z1} {g:Gh} {ops:List Oper} (hints:List (Nat×Hint)) (ch:List (Nat×AVal)) (live:List Nat) (oc:List (Nat×Option MObj)) (keeps:List Nat) (ps:List Prop) (inv:List (Nat×Nat)) (vk e0:List Nat) (t:Z1) (hp:AllP ps) (ht:t.floor=s.floor) (hq:Q .normal t g) (h:Z4g P n draw ops hints live keeps s=some (up s ch live oc keeps,ps):=by kernel_rfl) (hc:Zc1 (up s ch live oc keeps) inv vk e0 t=some t:=by kernel_rfl):GWp Γ (.region id ops.toArray draw) Q s g :=
 GWp.frame fun Γ' e1 e2=>AWp.cv (rG (e1.trans hP) (e2.trans hn) hm hints ch live oc keeps ps hp (lf inv vk e0 hc ⟨ht,hq⟩) h)
theorem AWp.nest {Γ:Ctx} {c:Code} {Q:Exit→Z1→Prop} {s:Z1} {sz el:Nat} (h:GWp Γ c (fun e s' _=>Q e s') s (nest sz el [] [] [])):AWp Γ c Q s:=by
 rintro a w ⟨κ,I,hr⟩;refine Code.wp_mono (fun e a' w' ⟨s',g',⟨κ',I',r',_⟩,hq⟩=>⟨s',⟨κ',I',r'⟩,hq⟩) (h a w ⟨κ,I,hr,⟨⟨rfl,rfl,List.nodup_nil,fun i h=>absurd h (Nat.not_lt_zero _)⟩,?_,?_,?_,?_⟩⟩)<;>(intro b hb;cases hb)
theorem GWp.data {Γ:Ctx} {c:Code} {Q:Exit→Z1→Prop} {s t:Z1} {g:Gh} (hc:∀ a w,GSat Γ s g a w→Sat Γ t a w) (h:AWp Γ c Q t):GWp Γ c (fun e s' _=>Q e s') s g:=by
 intro a w hs;refine Code.wp_mono (fun e a' w' ⟨s',⟨κ,I,hr⟩,hq⟩=>⟨s',nest 0 0 [] [] [],⟨κ,I,hr,⟨⟨rfl,rfl,List.nodup_nil,fun i h=>absurd h (Nat.not_lt_zero _)⟩,?_,?_,?_,?_⟩⟩,hq⟩) (h a w (hc a w hs))<;>(intro b hb;cases hb)
theorem GWp.fact {Γ:Ctx} {c:Code} {Q:Exit→Z1→Gh→Prop} {s:Z1} {g:Gh} (φ:Prop) (hf:∀ a w,GSat Γ s g a w→φ) (h:φ→GWp Γ c Q s g):GWp Γ c Q s g:=fun a w hs=>h (hf a w hs) a w hs
theorem GLWp.fact {Γ:Ctx} {c:Code} {Q:Exit→Z1→Gh→Prop} {s:Z1} {g:Gh} (φ:Prop) (hf:∀ a w,GSat Γ s g a w→φ) (h:φ→GLWp Γ c Q s g):GLWp Γ c Q s g:=fun a w hs=>h (hf a w hs) a w hs
theorem GLWp.cv {Γ:Ctx} {c:Code} {Q:Exit→Z1→Gh→Prop} {s s':Z1} {g g':Gh} (hc:GCv Γ s g s' g') (h:GLWp Γ c Q s' g'):GLWp Γ c Q s g:=fun a w hs=>h a w (hc a w hs)
structure Bun where
 v:Value
 h:AVal
 objs:List (Nat×MObj)
def BunAt (w:World) (I:Nat→Prop) (b:Bun) (B:List Nat):Prop :=
 ∃ κ:Nat→Option KI,Rep w I κ b.h b.v∧(∀ k o,look b.objs k=some o→OAt w I κ k o) ∧
  (∀ k k' o o' ki ki',look b.objs k=some o→look b.objs k'=some o'→κ k=some ki→κ k'=some ki'→ki.b=ki'.b→k=k') ∧
  ∀ k o ki,look b.objs k=some o→κ k=some ki→ki.b∈B
theorem OAt.mono' {w w':World} {I I':Nat→Prop} {κ:Nat→Option KI} {k:Nat} {o:MObj} (h:OAt w I κ k o) (hI:∀ b,I b→I' b) (hw:∀ b,I b→w'.heap[b]? = w.heap[b]?) (hb:∀ ki,κ k=some ki→w'.heap[ki.b]? = w.heap[ki.b]?):OAt w' I' κ k o:=by
 unfold OAt at h ⊢;cases e:κ k with
 | none=>rw[e] at h;exact h
 | some ki=>rw[e] at h;exact h.mono hI hw (hb ki e) (fun _ _=>rfl)
theorem BunAt.mono {w w':World} {I I':Nat→Prop} {b:Bun} {B:List Nat} (h:BunAt w I b B) (hB:∀ b∈B,w'.heap[b]? = w.heap[b]?) (hI:∀ b,I b→I' b) (hw:∀ b,I b→w'.heap[b]? = w.heap[b]?):BunAt w' I' b B:=by
 obtain⟨κ,h1,h2,h3,h4⟩:=h;exact⟨κ,h1.mono hI hw (fun _ _=>rfl),fun k o e=>(h2 k o e).mono' hI hw (fun ki ek=>hB _ (h4 k o ki e ek)),h3,h4⟩
def bag (bs:List Bun) (Bs:List (List Nat)):Gh where
 B:=Bs.flatten
 G w I:=bs.length=Bs.length∧Bs.flatten.Nodup∧∀ i (h1:i<bs.length) (h2:i<Bs.length),BunAt w I bs[i] Bs[i]
 mono w w' I I' hB hI hw h:=⟨h.1,h.2.1,fun i h1 h2=>(h.2.2 i h1 h2).mono (fun b hb=>hB b (List.mem_flatten.2 ⟨_,List.getElem_mem h2,hb⟩)) hI hw⟩
def Za7 (s:Z1) (F x:Nat) (b:Bun):Z1 := { slots:=(x,b.h)::s.slots,objs:=b.objs.map (fun p=>(p.1,some p.2))++s.objs,floor:=F }
def sansB (s:Z1) (fl:Nat) (KB:List Nat):Z1 := { slots:=s.slots,objs:=KB.map (fun k=>(k,none))++s.objs,floor:=fl }
theorem look_sans (KB:List Nat) (k:Nat):look (KB.map (fun k=>(k,(none:Option MObj)))) k=if k∈KB then some none else none:=by
 induction KB with
 | nil=>simp[look]
 | cons a r ih =>
  rw[List.map_cons,Z1m,ih];by_cases e:a=k
  ·simp[e]
  ·have e':¬ k=a:=fun q=>e q.symm
   simp[e,e']
theorem obj_sans (s:Z1) (fl:Nat) (KB:List Nat) (k:Nat):(sansB s fl KB).obj k=if k∈KB then none else s.obj k:=by
 show(look (KB.map (fun k=>(k,(none:Option MObj)))++s.objs) k).getD none=_;rw[Z5q,look_sans];by_cases e:k∈KB
 ·simp[e]
 ·simp[e];rfl
theorem look_some (l:List (Nat×MObj)) (k:Nat):look (l.map (fun p=>(p.1,some p.2))) k=(look l k).map some:=by
 induction l with
 | nil=>rfl
 | cons p l ih =>
  obtain⟨a,o⟩:=p;rw[List.map_cons,Z1m,Z1m,ih];by_cases e:a=k<;>simp[e]
theorem obj_with (s:Z1) (F x:Nat) (b:Bun) (k:Nat):(Za7 s F x b).obj k=match look b.objs k with
  | some o=>some o
  | none=>s.obj k:=by
 show(look (b.objs.map (fun p=>(p.1,some p.2))++s.objs) k).getD none=_;rw[Z5q,look_some];cases look b.objs k<;>rfl
theorem Zbz {Bs:List (List Nat)} (hn:Bs.flatten.Nodup) {i:Nat} (hi:i<Bs.length) {b:Nat} (hb:b∈(Bs.set i []).flatten):b∈Bs.flatten∧b ∉ Bs[i]:=by
 refine⟨?_,fun h=>(flat_nil hi hn).2 b h hb⟩;rcases flat_set_mem hb with h | h
 ·exact h
 ·cases h
theorem flat_put {Bs:List (List Nat)} {i:Nat} (hi:i<Bs.length) (hn:Bs.flatten.Nodup) {B':List Nat} (h1:B'.Nodup) (h2:∀ b∈B',b ∉ (Bs.set i []).flatten):(Bs.set i B').flatten.Nodup:=by
 obtain⟨n1,_⟩:=flat_nil hi hn;have e1:=(Z94 Bs i hi B').2;have e2:=(Z94 Bs i hi []).2;rw[e2] at n1 h2;rw[e1];simp only[List.flatten_append,List.flatten_cons,List.nil_append] at n1 h2 ⊢;rw[List.nodup_append] at n1 ⊢;obtain⟨a1,a2,a3⟩:=n1;refine⟨a1,List.nodup_append.2 ⟨h1,a2,fun a ha b hb e=>h2 a ha (List.mem_append_right _ (e ▸ hb))⟩,fun a ha b hb => ?_⟩;rcases List.mem_append.1 hb with hb | hb
 ·exact fun e=>h2 b hb (List.mem_append_left _ (e ▸ ha))
 ·exact a3 a ha b hb
def Z71 (κ:Nat→Option KI) (s:Z1):List Nat→List Nat
 | []=>[]
 | k::r=>match s.obj k,κ k with
  | some _,some ki=>ki.b::Z71 κ s r
  | _,_=>Z71 κ s r
theorem Z5z {κ:Nat→Option KI} {s:Z1}:∀ {KB:List Nat} {b:Nat},b∈Z71 κ s KB↔∃ k∈KB,∃ o ki,s.obj k=some o∧κ k=some ki∧ki.b=b
 | [],b=>by simp[Z71]
 | k::r,b=>by
  have ih:=@Z5z κ s r b;rw[Z71];cases e1:s.obj k with
  | none =>
   simp only[List.mem_cons,exists_eq_or_imp,e1];rw[ih];simp
  | some o =>
   cases e2:κ k with
   | none=>simp only[List.mem_cons,exists_eq_or_imp,e1,e2];rw[ih];simp
   | some ki =>
    simp only[List.mem_cons,exists_eq_or_imp,e1,e2];rw[ih];constructor
    ·rintro(h | h)
     ·exact .inl ⟨o,ki,rfl,rfl,h.symm⟩
     ·exact .inr h
    ·rintro(⟨o',ki',q1,q2,q3⟩ | h)
     ·cases q2;exact .inl q3.symm
     ·exact .inr h
theorem Z7w {κ:Nat→Option KI} {s:Z1} (hinj:∀ k k' o o' ki ki',s.obj k=some o→s.obj k'=some o'→κ k=some ki→κ k'=some ki'→ki.b=ki'.b→k=k'):∀ {KB:List Nat},KB.Nodup→(Z71 κ s KB).Nodup
 | [],_=>List.nodup_nil
 | k::r,h=>by
  obtain⟨h1,h2⟩:=List.nodup_cons.1 h;have ih:=Z7w hinj h2;rw[Z71];split
  ·rename_i o ki e1 e2
   refine List.nodup_cons.2 ⟨fun hm => ?_,ih⟩;obtain⟨k',hk',o',ki',q1,q2,q3⟩:=Z5z.1 hm;exact h1 (hinj k k' o o' ki ki' e1 q1 e2 q2 q3.symm ▸ hk')
  ·exact ih
theorem GWp.open {Γ:Ctx} {c:Code} {Q:Exit→Z1→Gh→Prop} {s:Z1} {bs:List Bun} {Bs:List (List Nat)} (KB:List Nat) (F i x:Nat) (b:Bun) (hb:bs[i]? = some b) (hx:s.get x = .im (.sc b.v)) (hKn:KB.Nodup) (hk:∀ k o,look b.objs k=some o→k∈KB) (hfr:∀ k∈KB,s.fresh k) (hob:∀ k o q,look b.objs k=some o→o.has q=true→q∈KB) (hh:∀ q,b.h.has q=true→q∈KB∧q<F) (hF:s.floor≤F) (h:∀ Γ':Ctx,Γ'.P=Γ.P→Γ'.n=Γ.n→AWp Γ' c (fun e s'=>s'.floor=F∧∃ objs':List (Nat×MObj),(∀ k o,look objs' k=some o→k∈KB∧s'.obj k=some o)∧∀ B',Q e (sansB s' s.floor KB) (bag (bs.set i ⟨b.v,b.h,objs'⟩) (Bs.set i B'))) (Za7 s F x b)):GWp Γ c Q s (bag bs Bs):=by
 rintro a w ⟨κ,I,hr,hg⟩;obtain⟨hl,hnd,hat⟩:=hg.holds;obtain⟨hi,rfl⟩:=List.getElem?_eq_some_iff.1 hb;have hiB:i<Bs.length:=hl ▸ hi;obtain⟨κb,b1,b2,b3,b4⟩:=hat i hi hiB;have hin:∀ q,q∈Bs[i]→q∈(bag bs Bs).B:=fun q hq=>List.mem_flatten.2 ⟨_,List.getElem_mem hiB,hq⟩
 let κ2:Nat→Option KI:=fun k=>if k∈KB then κb k else κ k
 have k2in:∀ k,k∈KB→κ2 k=κb k:=fun k h=>if_pos h
 have k2out:∀ k,k ∉ KB→κ2 k=κ k:=fun k h=>if_neg h
 have hmain:∀ k o,s.obj k=some o→k ∉ KB:=fun k o e hin=>by rw[(hfr k hin).2.2.1] at e;cases e
 have hob2:∀ k o,(Za7 s F x bs[i]).obj k=some o→(look bs[i].objs k=some o∧k∈KB)∨(k ∉ KB∧s.obj k=some o):=fun k o e=>by
  rw[obj_with] at e;cases e1:look bs[i].objs k with
  | some o'=>rw[e1] at e;obtain rfl:=Option.some.inj e;exact .inl ⟨rfl,hk k _ e1⟩
  | none=>rw[e1] at e;exact .inr ⟨hmain k o e,e⟩
 have objs2:∀ k o,(Za7 s F x bs[i]).obj k=some o→OAt w I κ2 k o:=fun k o e=>by
  rcases hob2 k o e with ⟨e1,e2⟩ | ⟨e1,e2⟩
  ·have h0:=b2 k o e1
   unfold OAt at h0 ⊢;rw[k2in k e2];cases e3:κb k with
   | none=>rw[e3] at h0;exact h0
   | some ki=>rw[e3] at h0;exact h0.mono (fun _ h=>h) (fun _ _=>rfl) rfl (fun q hq=>k2in q (hob k o q e1 hq))
  ·have h0:=hr.inv.objs k o e2
   unfold OAt at h0 ⊢;rw[k2out k e1];cases e3:κ k with
   | none=>rw[e3] at h0;exact h0
   | some ki=>rw[e3] at h0;exact h0.mono (fun _ h=>h) (fun _ _=>rfl) rfl (fun q hq=>k2out q (fun hin=>by rw[(hfr q hin).2.1 k o e2] at hq;cases hq))
 have inj2:∀ k k' o o' ki ki',(Za7 s F x bs[i]).obj k=some o→(Za7 s F x bs[i]).obj k'=some o'→κ2 k=some ki→κ2 k'=some ki'→ki.b=ki'.b→k=k':=by
  intro k k' o o' ki ki' e e' f f' hbb;rcases hob2 k o e with ⟨e1,e2⟩ | ⟨e1,e2⟩<;>rcases hob2 k' o' e' with ⟨g1,g2⟩ | ⟨g1,g2⟩
  ·rw[k2in k e2] at f;rw[k2in k' g2] at f';exact b3 k k' o o' ki ki' e1 g1 f f' hbb
  ·rw[k2in k e2] at f;rw[k2out k' g1] at f'
   exact absurd hbb.symm (hg.obj _ (hin _ (b4 k o ki e1 f)) k' o' ki' g2 f')
  ·rw[k2out k e1] at f;rw[k2in k' g2] at f'
   exact absurd hbb (hg.obj _ (hin _ (b4 k' o' ki' g1 f')) k o ki e2 f)
  ·rw[k2out k e1] at f;rw[k2out k' g1] at f';exact hr.inv.inj k k' o o' ki ki' e2 g2 f f' hbb
 have disj2:∀ k o ki,(Za7 s F x bs[i]).obj k=some o→κ2 k=some ki→¬ I ki.b:=by
  intro k o ki e f;rcases hob2 k o e with ⟨e1,e2⟩ | ⟨e1,e2⟩
  ·rw[k2in k e2] at f;exact hg.dis _ (hin _ (b4 k o ki e1 f))
  ·rw[k2out k e1] at f;exact hr.inv.disj k o ki e2 f
 have hdis:∀ q,I q→¬ Z6r κ2 (Za7 s F x bs[i]) q:=fun q hq ⟨k,o,ki,h1,h2,h3⟩=>disj2 k o ki h1 h2 (h3 ▸ hq)
 have glob:Zej Γ.P I (Z6r κ2 (Za7 s F x bs[i])) w:=fun g cs e=>by
  obtain⟨h1,h2,h3⟩:=hr.inv.tab e;exact⟨h1,hdis g h1,h2,h3⟩
 let Γ':Ctx := { P:=Γ.P,n:=Γ.n,w0:=w,I0:=I,M0:=Z6r κ2 (Za7 s F x bs[i]),κ0:=κ2,glob:=glob }
 have hslots:∀ y,Rep w I κ2 ((Za7 s F x bs[i]).get y) (a.tmps.getD y undef):=fun y=>by
  show Rep w I κ2 ((look ((x,bs[i].h)::s.slots) y).getD .top) _;rw[Z1m];by_cases e:x=y
  ·subst e
   rw[if_pos rfl];have hv:=hr.slots x;rw[hx] at hv;rw[hv.sc_inv];exact b1.mono (fun _ h=>h) (fun _ _=>rfl) (fun q hq=>k2in q (hh q hq).1)
  ·rw[if_neg e]
   exact(hr.slots y).mono (fun _ h=>h) (fun _ _=>rfl) (fun q hq=>k2out q (fun hin=>by
    have:=(hfr q hin).1 y;rw[this] at hq;cases hq))
 have sat:Sat Γ' (Za7 s F x bs[i]) a w:=⟨κ2,I,hr.size,hr.defers,hslots,objs2,inj2,disj2,hr.inv.bound,Zbb.refl _ _,fun _ h=>h,fun q h=>.inl h,fun k o ki h1 h2=>.inl ⟨k,o,ki,h1,h2,rfl⟩,fun k hk=>rfl⟩
 refine Code.wp_mono (fun e a' w' ⟨s',h1,hfl,objs',ho',hq⟩ => ?_) (h Γ' rfl rfl a w sat);obtain⟨κ',I',r'⟩:=h1;have hsz:w.heap.size≤w'.heap.size:=r'.inv.keep.size;have fromM:∀ q,Z6r κ2 (Za7 s F x bs[i]) q→Γ.M0 q∨Γ.w0.heap.size≤q:=fun q ⟨k,o,ki,h1,h2,h3⟩=>by
  rcases hob2 k o h1 with ⟨e1,e2⟩ | ⟨e1,e2⟩
  ·rw[k2in k e2] at h2;exact h3 ▸ hg.new _ (hin _ (b4 k o ki e1 h2))
  ·rw[k2out k e1] at h2;exact h3 ▸ hr.inv.fromO k o ki e2 h2
 have old:∀ q,q<w.heap.size→¬ Z6r κ2 (Za7 s F x bs[i]) q→w'.heap[q]? = w.heap[q]? := fun q hq hn=>r'.inv.keep.block q hq hn
 have fromO':∀ k o ki,s'.obj k=some o→κ' k=some ki→Γ.M0 ki.b∨Γ.w0.heap.size≤ki.b:=fun k o ki h1 h2=>by
  rcases r'.inv.fromO k o ki h1 h2 with h | h
  ·exact fromM _ h
  ·exact .inr (Nat.le_trans hr.inv.keep.size h)
 have others:∀ q,q∈(Bs.set i []).flatten→q<w.heap.size∧¬ Z6r κ2 (Za7 s F x bs[i]) q:=fun q hq=>by
  obtain⟨m1,m2⟩:=Zbz hnd hiB hq;refine⟨hg.size q m1,fun⟨k,o,ki,h1,h2,h3⟩ => ?_⟩;rcases hob2 k o h1 with ⟨e1,e2⟩ | ⟨e1,e2⟩
  ·rw[k2in k e2] at h2;exact m2 (h3 ▸ b4 k o ki e1 h2)
  ·rw[k2out k e1] at h2;exact hg.obj q m1 k o ki e2 h2 h3
 have apart':∀ q,q∈(Bs.set i []).flatten→∀ k o ki,s'.obj k=some o→κ' k=some ki→ki.b≠q:=fun q hq k o ki h1 h2 e=>by
  obtain⟨m1,m2⟩:=others q hq;rcases r'.inv.fromO k o ki h1 h2 with h | h
  ·exact m2 (e ▸ h)
  ·rw[e] at h;exact absurd m1 (Nat.not_lt.2 h)
 let B':List Nat:=Z71 κ' s' KB
 have hB':∀ q,q∈B'→∃ k∈KB,∃ o ki,s'.obj k=some o∧κ' k=some ki∧ki.b=q:=fun q hq=>Z5z.1 hq
 have hsans:∀ k o,(sansB s' s.floor KB).obj k=some o→k ∉ KB∧s'.obj k=some o:=fun k o e=>by
  rw[obj_sans] at e;by_cases hin:k∈KB
  ·rw[if_pos hin] at e;cases e
  ·rw[if_neg hin] at e;exact⟨hin,e⟩
 have mem':∀ q,q∈(Bs.set i B').flatten→q∈(Bs.set i []).flatten∨q∈B':=fun q hq=>by
  have e1:=(Z94 Bs i hiB B').2;have e2:=(Z94 Bs i hiB []).2;rw[e1] at hq;rw[e2];simp only[List.flatten_append,List.flatten_cons,List.nil_append,List.mem_append] at hq ⊢;rcases hq with h | h | h
  ·exact .inl (.inl h)
  ·exact .inr h
  ·exact .inl (.inr h)
 refine⟨sansB s' s.floor KB,bag (bs.set i ⟨bs[i].v,bs[i].h,objs'⟩) (Bs.set i B'),⟨κ',I',⟨r'.size,r'.defers,r'.slots,⟨fun k o e=>r'.inv.objs k o (hsans k o e).2,fun k k' o o' ki ki' e e'=>r'.inv.inj k k' o o' ki ki' (hsans k o e).2 (hsans k' o' e').2,fun k o ki e=>r'.inv.disj k o ki (hsans k o e).2,r'.inv.bound,?_,?_,?_,fun k o ki e f=>fromO' k o ki (hsans k o e).2 f,?_⟩⟩,?_,?_,?_,?_,?_⟩,hq B'⟩
 ·exact hr.inv.keep.trans r'.inv.keep (fun q hq hm=>(fromM q hm).resolve_right (fun h=>absurd hq (Nat.not_lt.2 h)))
 ·exact fun q hq=>r'.inv.ikeep q (hr.inv.ikeep q hq)
 ·intro q hq
  rcases r'.inv.fromI q hq with h | h | h
  ·exact hr.inv.fromI q h
  ·exact .inr (fromM q h)
  ·exact .inr (.inr (Nat.le_trans hr.inv.keep.size h))
 ·intro k hk'
  have hk':k<s.floor:=hk';have hnin:k ∉ KB:=fun hin=>absurd (hfr k hin).2.2.2 (Nat.not_le.2 hk');have:=r'.inv.fix k (by rw[hfl];omega);rw[this];show κ2 k=_;rw[k2out k hnin];exact hr.inv.fix k hk'
 ·refine⟨by simp[hl],flat_put hiB hnd (Z7w            r'.inv.inj hKn) (fun q hq hc => ?_),fun j h1 h2 => ?_⟩
  ·obtain⟨k,_,o,ki,q1,q2,q3⟩:=hB' q hq
   exact apart' q hc k o ki q1 q2 q3
  ·by_cases e:i=j
   ·subst e
    rw[List.getElem_set_self,List.getElem_set_self];refine⟨κ',?_,fun k o e => ?_,fun k k' o o' ki ki' e e'=>r'.inv.inj k k' o o' ki ki' (ho' k o e).2 (ho' k' o' e').2,fun k o ki e f=>Z5z.2 ⟨k,(ho' k o e).1,o,ki,(ho' k o e).2,f,rfl⟩⟩
    ·refine Rep.mono (I:=I) (w:=w) (κ:=κ2) ?_ (fun q hq=>r'.inv.ikeep q hq) (fun q hq=>old q (hr.inv.bound q hq) (hdis q hq)) (fun q hq=>r'.inv.fix q (by rw[hfl];exact(hh q hq).2))
     exact b1.mono (fun _ h=>h) (fun _ _=>rfl) (fun q hq=>k2in q (hh q hq).1)
    ·exact r'.inv.objs k o (ho' k o e).2
   ·rw[List.getElem_set_ne e,List.getElem_set_ne e]
    refine(hat j (by simpa using h1) (by simpa using h2)).mono (fun q hq => ?_) (fun q hq=>r'.inv.ikeep q hq) (fun q hq=>old q (hr.inv.bound q hq) (hdis q hq));have hm:q∈(Bs.set i []).flatten:=List.mem_flatten.2 ⟨(Bs.set i [])[j]'(by simpa using h2),List.getElem_mem _,by rw[List.getElem_set_ne e];exact hq⟩;exact old q (others q hm).1 (others q hm).2
 ·intro q hq
  rcases mem' q hq with h | h
  ·exact Nat.lt_of_lt_of_le (others q h).1 hsz
  ·obtain⟨k,_,o,ki,q1,q2,rfl⟩:=hB' q h
   have h0:=r'.inv.objs k o q1;unfold OAt at h0;rw[q2] at h0;exact h0.lt
 ·intro q hq hI
  rcases mem' q hq with h | h
  ·rcases r'.inv.fromI q hI with g | g | g
   ·exact hg.dis q (Zbz hnd hiB h).1 g
   ·exact(others q h).2 g
   ·exact absurd (others q h).1 (Nat.not_lt.2 g)
  ·obtain⟨k,_,o,ki,q1,q2,rfl⟩:=hB' q h
   exact r'.inv.disj k o ki q1 q2 hI
 ·intro q hq k o ki e f
  obtain⟨n1,e⟩:=hsans k o e;rcases mem' q hq with h | h
  ·exact apart' q h k o ki e f
  ·obtain⟨k',hk',o',ki',q1,q2,rfl⟩:=hB' q h
   exact fun hbb=>n1 (r'.inv.inj k k' o o' ki ki' e q1 f q2 hbb ▸ hk')
 ·intro q hq
  rcases mem' q hq with h | h
  ·exact hg.new q (Zbz hnd hiB h).1
  ·obtain⟨k,_,o,ki,q1,q2,rfl⟩:=hB' q h
   exact fromO' k o ki q1 q2
theorem GWp.newB {Γ:Ctx} {c:Code} {Q:Exit→Z1→Gh→Prop} {s:Z1} {bs:List Bun} {Bs:List (List Nat)} (KB:List Nat) (x:Nat) (h:AVal) (objs:List (Nat×MObj)) (hx:s.get x=h) (hKn:KB.Nodup) (ho:∀ k o,look objs k=some o→k∈KB∧s.obj k=some o) (H:∀ v B',GWp Γ c Q ⟨(x,.im (.sc v))::s.slots,(sansB s s.floor KB).objs,s.floor⟩ (bag (bs++[⟨v,h,objs⟩]) (Bs++[B']))):GWp Γ c Q s (bag bs Bs):=by
 rintro a w ⟨κ,I,hr,hg⟩;obtain⟨hl,hnd,hat⟩:=hg.holds
 let v:Value:=a.tmps.getD x undef
 let B':List Nat:=Z71 κ s KB
 have hB':∀ q,q∈B'→∃ k∈KB,∃ o ki,s.obj k=some o∧κ k=some ki∧ki.b=q:=fun q hq=>Z5z.1 hq
 have hsans:∀ k o,(⟨(x,.im (.sc v))::s.slots,(sansB s s.floor KB).objs,s.floor⟩:Z1).obj k=some o→k ∉ KB∧s.obj k=some o:=fun k o e=>by
  have e:(sansB s s.floor KB).obj k=some o:=e;rw[obj_sans] at e;by_cases hin:k∈KB
  ·rw[if_pos hin] at e;cases e
  ·rw[if_neg hin] at e;exact⟨hin,e⟩
 have hfl:∀ q,q∈(Bs++[B']).flatten↔q∈Bs.flatten∨q∈B':=fun q=>by simp
 refine H v B' a w ⟨κ,I,⟨hr.size,hr.defers,fun y => ?_,fun k o e=>hr.inv.objs k o (hsans k o e).2,fun k k' o o' ki ki' e e'=>hr.inv.inj k k' o o' ki ki' (hsans k o e).2 (hsans k' o' e').2,fun k o ki e=>hr.inv.disj k o ki (hsans k o e).2,hr.inv.bound,hr.inv.keep,hr.inv.ikeep,hr.inv.fromI,fun k o ki e=>hr.inv.fromO k o ki (hsans k o e).2,hr.inv.fix⟩,?_,?_,?_,?_,?_⟩
 ·show Rep w I κ ((look ((x,AVal.im (.sc v))::s.slots) y).getD .top) _
  rw[Z1m];by_cases e:x=y
  ·subst e;rw[if_pos rfl];exact .im (.sc _)
  ·rw[if_neg e];exact hr.slots y
 ·refine⟨by simp[hl],?_,fun j h1 h2 => ?_⟩
  ·rw[List.flatten_append]
   refine List.nodup_append.2 ⟨hnd,by simpa using Z7w hr.inv.inj hKn,fun q hq q' hq' e => ?_⟩;obtain⟨k,_,o,ki,q1,q2,q3⟩:=hB' q' (by simpa using hq');exact hg.obj q hq k o ki q1 q2 (q3.trans e.symm)
  ·by_cases hj:j<bs.length
   ·rw[List.getElem_append_left hj,List.getElem_append_left (by omega)]
    exact hat j hj (by omega)
   ·have hj':j=bs.length:=by simp at h1;omega
    subst hj';have e1:(bs++[⟨v,h,objs⟩])[bs.length]=⟨v,h,objs⟩:=by simp
    have e2:(Bs++[B'])[bs.length]=B':=by simp[hl]
    rw[e1,e2];refine⟨κ,?_,fun k o e=>hr.inv.objs k o (ho k o e).2,fun k k' o o' ki ki' e e'=>hr.inv.inj k k' o o' ki ki' (ho k o e).2 (ho k' o' e').2,fun k o ki e f=>Z5z.2 ⟨k,(ho k o e).1,o,ki,(ho k o e).2,f,rfl⟩⟩;have:=hr.slots x;rw[hx] at this;exact this
 ·intro q hq
  rcases(hfl q).1 hq with h | h
  ·exact hg.size q h
  ·obtain⟨k,_,o,ki,q1,q2,rfl⟩:=hB' q h
   have h0:=hr.inv.objs k o q1;unfold OAt at h0;rw[q2] at h0;exact h0.lt
 ·intro q hq
  rcases(hfl q).1 hq with h | h
  ·exact hg.dis q h
  ·obtain⟨k,_,o,ki,q1,q2,rfl⟩:=hB' q h
   exact hr.inv.disj k o ki q1 q2
 ·intro q hq k o ki e f
  obtain⟨n1,e⟩:=hsans k o e;rcases(hfl q).1 hq with h | h
  ·exact hg.obj q h k o ki e f
  ·obtain⟨k',hk',o',ki',q1,q2,rfl⟩:=hB' q h
   exact fun hbb=>n1 (hr.inv.inj k k' o o' ki ki' e q1 f q2 hbb ▸ hk')
 ·intro q hq
  rcases(hfl q).1 hq with h | h
  ·exact hg.new q h
  ·obtain⟨k,_,o,ki,q1,q2,rfl⟩:=hB' q h
   exact hr.inv.fromO k o ki q1 q2
theorem bag_ptr {Γ:Ctx} {s:Z1} {bs:List Bun} {Bs:List (List Nat)} {i k e j:Nat} {b:Bun} (hb:bs[i]? = some b) (hh:b.h = .ptr k e j) (a:Act) (w:World) (h:GSat Γ s (bag bs Bs) a w):∃ ad,b.v = .pointer (some ad):=by
 obtain⟨κ,I,hr,hg⟩:=h;obtain⟨hl,_,hat⟩:=hg.holds;obtain⟨hi,rfl⟩:=List.getElem?_eq_some_iff.1 hb;obtain⟨κb,b1,_⟩:=hat i hi (by omega);rw[hh] at b1;generalize bs[i].v=v at b1;cases b1 with
 | ptr e=>exact⟨_,rfl⟩
theorem AWp.bag0 {Γ:Ctx} {c:Code} {Q:Exit→Z1→Prop} {s:Z1} (h:GWp Γ c (fun e s' _=>Q e s') s (bag [] [])):AWp Γ c Q s:=by
 rintro a w ⟨κ,I,hr⟩;refine Code.wp_mono (fun e a' w' ⟨s',g',⟨κ',I',r',_⟩,hq⟩=>⟨s',⟨κ',I',r'⟩,hq⟩) (h a w ⟨κ,I,hr,⟨⟨rfl,List.nodup_nil,fun i h=>absurd h (Nat.not_lt_zero _)⟩,?_,?_,?_,?_⟩⟩)<;>(intro b hb;cases hb)
theorem run_eql_ptr {P:Program} {t e:TypeId} (ht:P.underlying t=some (.pointer e)) (p:Option Addr) (w:World):(binOp .eql t (.pointer p) (.pointer none)).run P w = .ok (.bool p.isNone) w:=by
 have h:(Op.equal t (.pointer p) (.pointer none)).run P w = .ok p.isNone w:=by
  unfold Op.equal Op.maxDepth;rw[Op.equalIn];cases p<;>simp only[Sem.run_bind,Zi ht,Result.andThen_ok,Sem.run_pure]<;>rfl
 show(do pure (.bool (← Op.equal t (.pointer p) (.pointer none))):Sem Value).run P w=_;rw[Sem.run_bind,h];rfl
def xPNil:Ext where
 f P o s:=match o.op with
  | .binOp .eql t x (.const (.pointer none)) _=>match P.underlying t,s.eval x with
   | some (.pointer _),.im (.sc (.pointer p))=>some ⟨[],[],.im (.sc (.bool p.isNone)),[],[]⟩
   | _,_=>none
  | _=>none
 ok P o s e he hp:=by
  split at he
  ·rename_i t x _ ho
   split at he
   ·rename_i el p ht hx
    obtain rfl:=Option.some.inj he;refine .quiet rfl fun Γ κ I s2 a w hP hrel hn => ?_;have g:=opd hrel hn x (by simp[ho,Op.operands]) rfl;rw[hx] at g;have e:=g.sc_inv;refine⟨.bool p.isNone,?_,.im (.sc _)⟩;have hc:a.eval (.const (.pointer none)) = .pointer none:=rfl;simp only[execOp,ho,e,hc,eqGuard];simp[run_eql_ptr ht]
   ·simp at he
  ·simp at he
theorem Z73 {Γ:Ctx} {s:Z1} {g:Gh} (live keeps:List Nat):GCv Γ s g (Z5n live keeps s) g:=by
 rintro a w ⟨κ,I,hr,hg⟩;have hs:∀ x,(Z5n live keeps s).get x = .top∨(Z5n live keeps s).get x=s.get x:=fun x=>by
  simp only[Z1.get,Z5n];cases e:look (live.map fun i=>(i,(look s.slots i).getD .top)) x with
  | none=>left;rfl
  | some v=>right;rw[Zd0 (fun i=>(look s.slots i).getD .top) live x v e];rfl
 have ho:∀ k o,(Z5n live keeps s).obj k=some o→s.obj k=some o:=fun k o hk=>by
  simp only[Z1.obj,Z5n] at hk;cases e:look (keeps.map fun k=>(k,(look s.objs k).getD none)) k with
  | none=>rw[e] at hk;simp at hk
  | some v=>rw[e] at hk;have:=Zd0 (fun i=>(look s.objs i).getD none) keeps k v e;subst this;exact hk
 refine⟨κ,I,⟨hr.size,hr.defers,fun x => ?_,hr.inv.eqv ho rfl⟩,hg.holds,hg.size,hg.dis,fun b hb k o ki e=>hg.obj b hb k o ki (ho k o e),hg.new⟩;rcases hs x with e | e<;>rw[e]
 ·exact .top _
 ·exact hr.slots x
section
variable {K B:Type}
abbrev QL (K B:Type):=List ((K×B)×Value)
def qS (q:QL K B):List (K×B):=q.map (·.1)
def qM (q:QL K B):List (K×Value):=q.map fun y=>(y.1.1,y.2)
def qB (h:AVal) (f:B→List (Nat×MObj)) (q:QL K B):List Bun:=q.map fun y=>⟨y.2,h,f y.1.2⟩
theorem q_get [DecidableEq K] (lo:K):∀ q:QL K B,(mget (qS q) lo=none∧mget (qM q) lo=none∧∀ bk v,mput (qS q) lo bk=qS (q++[((lo,bk),v)])∧mput (qM q) lo v=qM (q++[((lo,bk),v)])) ∨
  ∃ i bk v,q[i]? = some ((lo,bk),v)∧mget (qS q) lo=some bk∧mget (qM q) lo=some v∧∀ bk',mput (qS q) lo bk'=qS (q.set i ((lo,bk'),v))
 | []=>.inl ⟨rfl,rfl,fun bk v=>⟨rfl,rfl⟩⟩
 | y::q=>by
  obtain⟨⟨k,b⟩,u⟩:=y;by_cases e:k=lo
  ·subst e
   refine .inr ⟨0,b,u,rfl,?_,?_,fun bk' => ?_⟩
   ·show mget ((k,b)::qS q) k=_;rw[mget,if_pos rfl]
   ·show mget ((k,u)::qM q) k=_;rw[mget,if_pos rfl]
   ·show mput ((k,b)::qS q) k bk'=_;rw[mput,if_pos rfl];rfl
  ·rcases q_get lo q with ⟨h1,h2,h3⟩ | ⟨i,bk,v,h1,h2,h3,h4⟩
   ·refine .inl ⟨?_,?_,fun bk v=>⟨?_,?_⟩⟩
    ·show mget ((k,b)::qS q) lo=_;rw[mget,if_neg e];exact h1
    ·show mget ((k,u)::qM q) lo=_;rw[mget,if_neg e];exact h2
    ·show mput ((k,b)::qS q) lo bk=_;rw[mput,if_neg e,(h3 bk v).1];rfl
    ·show mput ((k,u)::qM q) lo v=_;rw[mput,if_neg e,(h3 bk v).2];rfl
   ·refine .inr ⟨i+1,bk,v,h1,?_,?_,fun bk' => ?_⟩
    ·show mget ((k,b)::qS q) lo=_;rw[mget,if_neg e];exact h2
    ·show mget ((k,u)::qM q) lo=_;rw[mget,if_neg e];exact h3
    ·show mput ((k,b)::qS q) lo bk'=_;rw[mput,if_neg e,h4 bk'];rfl
theorem qM_set {q:QL K B} {i:Nat} {lo:K} {bk bk':B} {v:Value} (h:q[i]? = some ((lo,bk),v)):qM (q.set i ((lo,bk'),v))=qM q:=by
 unfold qM;rw[List.map_set];obtain⟨hi,e⟩:=List.getElem?_eq_some_iff.1 h;apply List.ext_getElem?;intro j;by_cases c:i=j
 ·subst c
  rw[List.getElem?_set_self (by simpa using hi),List.getElem?_map,h];rfl
 ·rw[List.getElem?_set_ne c]
theorem qB_set {h:AVal} {f:B→List (Nat×MObj)} {q:QL K B} {i:Nat} {lo:K} {bk':B} {v:Value}:qB h f (q.set i ((lo,bk'),v))=(qB h f q).set i ⟨v,h,f bk'⟩:=by
 unfold qB;rw[List.map_set]
theorem qB_get {h:AVal} {f:B→List (Nat×MObj)} {q:QL K B} {i:Nat} {lo:K} {bk:B} {v:Value} (e:q[i]? = some ((lo,bk),v)):(qB h f q)[i]? = some ⟨v,h,f bk⟩:=by
 unfold qB;rw[List.getElem?_map,e];rfl
theorem qB_app {h:AVal} {f:B→List (Nat×MObj)} {q:QL K B} {lo:K} {bk:B} {v:Value}:qB h f (q++[((lo,bk),v)])=qB h f q++[⟨v,h,f bk⟩]:=by
 unfold qB;rw[List.map_append];rfl
end
end Go.Pv
namespace Go.Pv
open Go.Instr
def xLenCut:Ext where
 f P o s:=match o.op with
  | .call { callee:=.builtin .len,args:=⟨[x]⟩,argTypes:=ts }=>match ts[0]? with
   | some t=>match P.underlying t,s.eval x with
    | some (.slice _),.cut k lo n=>some ⟨[],[],.im (.sc (.int .i64 (n:Int))),[],[]⟩
    | _,_=>none
   | none=>none
  | _=>none
 ok P o s e he hp:=by
  split at he
  ·rename_i x ts ho
   split at he
   ·rename_i t hts
    split at he
    ·rename_i el k lo n hu hx
     obtain rfl:=Option.some.inj he;refine .quiet rfl fun Γ κ I s2 a w hP hr hn => ?_;have g1:=opd hr hn x (by simp[ho,Op.operands,Call.operands]) hx;have:∃ base c,a.eval x = .slice base n c:=by
      generalize a.eval x=v at g1;cases g1 with
      | cut0 base e=>exact⟨base,0,rfl⟩
      | cut e h1 h2=>exact⟨_,_,rfl⟩
     obtain⟨base,c,e⟩:=this;refine⟨.int .i64 (n:Int),?_,.im (.sc _)⟩;have:=Z8g (P:=P) hu o.type base n c w ts hts;simp[execOp,ho,resolve,invoke,builtin,e,this]
    ·simp at he
   ·simp at he
  ·simp at he
def xIdxCut (i:Nat):Ext where
 f P o s:=match o.op with
  | .indexAddr t x ix=>match Z7k   P t,s.eval x,s.eval ix with
   | some (e,sz),.cut k lo n,.im (.sc (.int _ m))=>match s.obj k with
    | some (.row sz' el es)=>match Nat.beq sz' sz with
     | true=>some ⟨[k],[],.ptr k (lo+i) 0,[],[m=(i:Int),i<n]⟩
     | false=>none
    | _=>none
   | _,_,_=>none
  | _=>none
 ok P o s e he hp:=by
  split at he
  ·rename_i t x ix ho
   split at he
   ·rename_i el sz k lo n kk m hel hx hi
    split at he
    ·rename_i sz' el' es hk
     split at he
     ·rename_i b1
      obtain rfl:=Nat.eq_of_beq_eq_true b1;obtain rfl:=Option.some.inj he;obtain⟨rfl,b2,_⟩:=hp;refine .quiet rfl fun Γ κ I s2 a w hP hr hn => ?_;have g1:=opd hr hn x (by simp[ho,Op.operands]) hx;have g2:=(opd hr hn ix (by simp[ho,Op.operands]) hi).sc_inv;have hO:=hr.inv.objs k _ ((Z1r hn k (by simp)).trans hk);generalize hv:a.eval x=v at g1;cases g1 with
      | cut0 base e=>omega
      | @cut _ _ _ off ki e h1 h2 =>
       unfold OAt at hO;rw[e] at hO;obtain⟨c1,c2,c3,_⟩:=hO;have hoff:off=lo*ki.sz:=by
        rcases h1 with h | h
        ·exact h
        ·omega
       subst hoff;have hrun:=Z8h (P:=P) hel (k:=kk) (i:=(i:Int)) (b:=ki.b) (off:=lo*ki.sz) (len:=n) (cap:=ki.cap-lo) (by omega) (by omega) w;refine⟨.pointer (some ⟨ki.b,lo*ki.sz+i*sz',none⟩),?_,?_⟩
       ·rw[Int.toNat_natCast] at hrun
        simp only[execOp,ho,hv,g2,Sem.run_bind,hrun,Result.andThen_ok,Sem.run_pure]
       ·have:=Rep.ptr (w:=w) (I:=I) (e:=lo+i) (j:=0) e
        rw[c1] at this ⊢;rw[Nat.add_mul,Nat.add_zero] at this;simpa[mkSp] using this
     ·simp at he
    ·simp at he
   ·simp at he
  ·simp at he
end Go.Pv
namespace Go.Pv
theorem Inv.data {Γ:Ctx} {κ:Nat→Option KI} {I:Nat→Prop} {s:Z1} {w w':World} (h:Inv Γ κ I s w) (h1:∀ b,b<w.heap.size→w'.heap[b]? = w.heap[b]?) (h2:w'.heap.size=w.heap.size+1) (h3:w'.os=w.os) (h4:w'.tape=w.tape) (h5:w'.output=w.output):Inv Γ κ (fun b=>I b∨b=w.heap.size) s w'∧∀ b,I b→w'.heap[b]? = w.heap[b]? := by
 have hI:∀ b,I b→w'.heap[b]? = w.heap[b]? := fun b hb=>h1 b (h.bound b hb)
 have hlt:∀ k o ki,s.obj k=some o→κ k=some ki→ki.b<w.heap.size:=by
  intro k o ki e eκ;have:=h.objs k o e;simp only[OAt,eκ] at this;cases o with
  | row=>obtain⟨_,_,_,arr,h3,_⟩:=this;exact(Array.getElem?_eq_some_iff.1 h3).1
  | box=>obtain⟨_,_,arr,h3,_⟩:=this;exact(Array.getElem?_eq_some_iff.1 h3).1
  | map=>obtain⟨arr,h3,_⟩:=this;exact(Array.getElem?_eq_some_iff.1 h3).1
  | iter=>obtain⟨bm,h3,_⟩:=this;exact(Array.getElem?_eq_some_iff.1 h3).1
  | arow=>obtain⟨_,_,_,arr,h3,_⟩:=this;exact(Array.getElem?_eq_some_iff.1 h3).1
 refine⟨⟨fun k o hk => ?_,h.inj,fun k o ki hk e hb => ?_,fun b hb => ?_,?_,fun b hb=>.inl (h.ikeep b hb),fun b hb => ?_,h.fromO,h.fix⟩,hI⟩
 ·have:=h.objs k o hk
  unfold OAt at this ⊢;cases e:κ k with
  | none=>rw[e] at this;exact this
  | some ki=>rw[e] at this;exact this.mono (fun b h=>.inl h) hI (h1 _ (hlt k o ki hk e)) (fun _ _=>rfl)
 ·rcases hb with hb | hb
  ·exact h.disj k o ki hk e hb
  ·have:=hlt k o ki hk e;omega
 ·rcases hb with hb | hb
  ·have:=h.bound b hb;omega
  ·omega
 ·exact⟨h3.trans h.keep.os,h4.trans h.keep.tape,h5.trans h.keep.output,by have:=h.keep.size;omega,fun b hb hn=>(h1 b (Nat.lt_of_lt_of_le hb h.keep.size)).trans (h.keep.block b hb hn)⟩
 ·rcases hb with hb | hb
  ·exact h.fromI b hb
  ·exact .inr (.inr (by have:=h.keep.size;omega))
def xBytes:Ext where
 f P o s:=match o.op with
  | .convert st t x=>match P.underlying st,P.underlying t,s.eval x with
   | some .string,some (.slice e),.im (.sc (.string b))=>match P.underlying e with
    | some (.int .u8)=>some ⟨[],[],.im (.row ((Z3b b).map (Z4q .u8))),[],[]⟩
    | _=>none
   | _,_,_=>none
  | _=>none
 ok P o s e he hp:=by
  split at he
  ·rename_i st t x ho
   split at he
   ·rename_i el b hs ht hx
    split at he
    ·rename_i hu
     obtain rfl:=Option.some.inj he;refine .of fun Γ κ I s2 a w hP hr hn hf => ?_;have g:=(opd hr hn x (by simp[ho,Op.operands]) hx).sc_inv;have hrun:=Lib.run_convert_string_bytes (P:=P) w st t el b hs ht hu;obtain⟨i1,i2⟩:=hr.inv.data (w':=Lib.bytesWorld w el b) (fun j hj=>Lib.bytesWorld_at_old w el b j hj) (Lib.bytesWorld_size w el b) (by
      unfold Lib.bytesWorld;unfold World.freeze;split<;>rfl) (by unfold Lib.bytesWorld;unfold World.freeze;split<;>rfl) (by unfold Lib.bytesWorld;unfold World.freeze;split<;>rfl)
     refine⟨.slice (some ⟨w.heap.size,0,none⟩) b.size (grownCap w b.size 0 el),_,Lib.bytesWorld w el b,κ,fun c=>I c∨c=w.heap.size,.inl rfl,by simp only[execOp,ho,g,Sem.run_bind,hrun,Result.andThen_ok,Sem.run_pure],i1,fun c hc=>.inl hc,i2,fun _ _ _=>rfl,.im ?_⟩;have hlen:b.size=((Z3b b).map (Z4q .u8)).length:=by rw[List.length_map];simp only[Z3b,List.length_map,Array.length_toList];rfl
     refine IRep.row (sz:=1) (off:=0) (fun i _=>.int .u8 ((b.data.toList.getD i 0).toNat)) hlen (.inr rfl) ?_ (fun i h => ?_) (fun i j hi hj => ?_) (fun i h j h' => ?_)
     ·show b.size≤grownCap w b.size 0 el
      unfold grownCap Question.cut;exact Nat.le_add_right ..
     ·simp
     ·have:j=0:=by omega
      subst this;rw[show 0+(i*1+0)=i from by omega];exact Lib.bytesWorld_cell w el b i (by omega)
     ·simp only[List.getElem_map,Z4q   ,List.length_cons,List.length_nil] at h'
      have:j=0:=by omega
      subst this;simp only[List.length_map] at h;have hl2:i<b.data.toList.length:=by simpa[Z3b] using h
      have e1:((Z3b b).map (Z4q .u8))[i]'(by simpa using h)=[.sc (.int .u8 ((b.data.toList.getD i 0).toNat))]:=by
       rw[List.getElem_map];have:(Z3b b)[i]=((b.data.toList.getD i 0).toNat:Int):=by
        simp only[Z3b,List.getElem_map];rw[List.getD_eq_getElem?_getD,List.getElem?_eq_getElem hl2];rfl
       rw[this]
      simp only[e1,List.getElem_cons_zero];exact .sc _
    ·simp at he
   ·simp at he
  ·simp at he
end Go.Pv
namespace Go.Pv
open Go
theorem ok_uxor {P:Program} {o:Oper} {s:Z1} {t:TypeId} {x:Operand} {k:IntKind} {a:Int} (ho:o.op = .unOp .xor t x) (hx:s.eval x = .im (.sc (.int k a))):OpOK P o (mkSp s o [] [] (.im (.sc (.int k (k.wrap ((BitVec.ofInt k.bits (if k.signed then -1 else k.max) ^^^ BitVec.ofInt k.bits a).toNat:Int))))) []) :=
 ok_pure _ [(x,.int k a)] (by simp[ho,Op.operands,hx]) (fun ρ hρ w=>by
  have h1:=hρ (x,.int k a) (by simp);simp only[execOp,ho,h1];rfl)
def xUXor:Ext where
 f P o s:=match o.op with
  | .unOp .xor _ x=>match s.eval x with
   | .im (.sc (.int k a))=>some ⟨[],[],.im (.sc (.int k (k.wrap ((BitVec.ofInt k.bits (if k.signed then -1 else k.max) ^^^ BitVec.ofInt k.bits a).toNat:Int)))),[],[]⟩
   | _=>none
  | _=>none
 ok P o s e he hp:=by
  split at he
  ·rename_i t x ho
   split at he
   ·rename_i k a hx
    obtain rfl:=Option.some.inj he;exact ok_uxor ho hx
   ·simp at he
  ·simp at he
def xIdxS (n:Nat):Ext where
 f P o s:=match o.op with
  | .indexAddr t x i=>match P.underlying t,s.eval x,s.eval i with
   | some (.array len el),.ptr k e j,.im (.sc (.int kk m))=>match aggP P el with
    | some (ag,sz)=>some ⟨[],[],.ptr k e (j+n*sz),[],[m=(n:Int),n<len]⟩
    | _=>none
   | _,_,_=>none
  | _=>none
 ok P o s ef he hp:=by
  split at he
  ·rename_i t x i ho
   split at he
   ·rename_i len el k e j kk m ht hx hi
    split at he
    ·rename_i ag sz hag
     obtain rfl:=Option.some.inj he;obtain⟨rfl,hlt,_⟩:=hp;refine .quiet rfl fun Γ κ I s2 a w hP hr hn => ?_;have h:=opd hr hn x (by simp[ho,Op.operands]) hx;have h':=(opd hr hn i (by simp[ho,Op.operands]) hi).sc_inv;generalize ha:a.eval x=v at h;cases h with
     | @ptr _ _ _ ki ek =>
      refine⟨.pointer (some ⟨ki.b,e*ki.sz+j+n*sz,none⟩),?_,?_⟩
      ·simp[execOp,ho,ha,h',Instr.indexAt,asIntOf,Zi ht,hlt,Instr.sureAddr,Z1b hag,Z5o]
      ·show Rep w I κ (.ptr k e (j+n*sz)) _
       rw[Nat.add_assoc];exact .ptr ek
    ·simp at he
   ·simp at he
  ·simp at he
def xLoadS (r:AVal):Ext where
 f P o s:=match o.op with
  | .load t x=>match aggP P t,s.eval x with
   | some (ag,sz),.ptr k 0 j=>match s.obj k with
    | some (.box el cells)=>some ⟨[k],[],r,[],[Z8m ag sz (cells.drop j)=some r]⟩
    | _=>none
   | _,_=>none
  | _=>none
 ok P o s e he hp:=by
  split at he
  ·rename_i t x ho
   split at he
   ·rename_i ag sz k j ht hx
    split at he
    ·rename_i el cells hk
     obtain rfl:=Option.some.inj he;exact Zdl ho hx hk ht hp.1
    ·simp at he
   ·simp at he
  ·simp at he
def xStoreS (cells':List AVal):Ext where
 f P o s:=match o.op with
  | .store t x y=>match aggP P t,s.eval x with
   | some (ag,sz),.ptr k 0 j=>match s.obj k with
    | some (.box el cells)=>some ⟨[k],[],.top,[(k,some (.box el cells'))],[Z1s (Z0k (s.eval y))=true,(Z0k (s.eval y)).length=sz,0<sz,j+sz≤cells.length,Z42 cells j (Z0k (s.eval y))=cells']⟩
    | _=>none
   | _,_=>none
  | _=>none
 ok P o s e he hp:=by
  split at he
  ·rename_i t x y ho
   split at he
   ·rename_i ag sz k j ht hx
    split at he
    ·rename_i el cells hk
     obtain rfl:=Option.some.inj he;obtain⟨p1,p2,p3,p4,p5,_⟩:=hp;subst p5;exact Zcc ho hx hk ht p1 p2 p3 p4
    ·simp at he
   ·simp at he
  ·simp at he
theorem loadA_elem {cells:List AVal} {j:Nat} {c:AVal} (h:cells[j]? = some c):Z8m false 1 (cells.drop j)=some c:=by
 unfold Z8m;rw[List.head?_drop];exact h
theorem loadA_all {cells:List AVal} {n:Nat} (h:cells.length=n):Z8m true n (cells.drop 0)=some (.agg cells):=by
 subst h;unfold Z8m;simp only[List.drop_zero];rw[show Nat.ble cells.length cells.length=true by simp];simp
theorem splice_one {cells:List AVal} {j:Nat} {c:AVal} (h:j<cells.length):Z42 cells j [c]=cells.set j c:=by
 unfold Z42;apply List.ext_getElem?;intro i;rw[List.append_assoc,List.getElem?_append,List.length_take];simp only[List.length_cons,List.length_nil,Nat.zero_add];by_cases h1:i<min j cells.length
 ·rw[if_pos h1,List.getElem?_take,if_pos (by omega),List.getElem?_set_ne (by omega)]
 ·rw[if_neg h1,show min j cells.length=j by omega]
  by_cases h2:i=j
  ·subst h2;simp[h]
  ·rw[List.getElem?_set_ne (by omega),List.singleton_append,show i-j=(i-j-1)+1 by omega,List.getElem?_cons_succ,List.getElem?_drop]
   congr 1;omega
theorem Zeu {cells cs:List AVal} (h:cs.length=cells.length):Z42 cells 0 cs=cs:=by
 unfold Z42;simp[h]
theorem Zbs {α:Type} (f:α→AVal) (h:∀ x,(f x).leaf=true):∀ l:List α,Z1s (l.map f)=true
 | []=>rfl
 | x::l=>by simp[Z1s,h,Zbs f h l]
def crcS (c:Int):Int:=if(IntKind.u32.wrap (((BitVec.ofInt 32 c &&& BitVec.ofInt 32 1).toNat:Nat):Int)==(1:Int))=true then IntKind.u32.wrap (((BitVec.ofInt 32 (Int.fdiv c 2) ^^^ BitVec.ofInt 32 3988292384).toNat:Nat):Int) else Int.fdiv c 2
def crcN:Nat→Int→Int
 | 0,c=>c
 | n+1,c=>crcN n (crcS c)
def crcE (i:Nat):Int:=crcN 8 (IntKind.u32.wrap (i:Int))
def crcT:List Int:=(List.range 256).map crcE
def crcP (n:Nat):List Int:=(List.range n).map crcE++List.replicate (256-n) 0
theorem crcP_len {n:Nat} (h:n≤256):(crcP n).length=256:=by simp[crcP];omega
theorem crcP_all:crcP 256=crcT:=by simp[crcP,crcT]
theorem crcP_set {n:Nat} (h:n<256):(crcP n).set n (crcE n)=crcP (n+1):=by
 unfold crcP;rw[List.set_append_right _ _ (by simp)];rw[show 256-n=(256-(n+1))+1 by omega,List.replicate_succ];simp[List.range_succ]
def crcI (c x:Int):Nat:=(IntKind.u8.wrap (((BitVec.ofInt 8 (IntKind.u8.wrap c) ^^^ BitVec.ofInt 8 x).toNat:Nat):Int)).toNat
def crcU (c x:Int):Int:=IntKind.u32.wrap (((BitVec.ofInt 32 (crcT.getD (crcI c x) 0) ^^^ BitVec.ofInt 32 (Int.fdiv c 256)).toNat:Nat):Int)
def crcF:Int→List Int→Int
 | c,[]=>c
 | c,x::l=>crcF (crcU c x) l
def crcFF:Int→List (List Int)→Int
 | c,[]=>c
 | c,x::l=>crcFF (crcF c x) l
def crcO (l:List (List Int)):Int:=IntKind.u32.wrap (((BitVec.ofInt 32 4294967295 ^^^ BitVec.ofInt 32 (crcFF 4294967295 l)).toNat:Nat):Int)
theorem wrap8_lt (n:Int):0≤IntKind.u8.wrap n∧IntKind.u8.wrap n<256:=by
 have e:IntKind.u8.wrap n=n % 256:=by simp[IntKind.wrap,IntKind.signed,IntKind.bits]
 rw[e];omega
theorem crcI_eq (c x:Int):IntKind.u8.wrap (((BitVec.ofInt 8 (IntKind.u8.wrap c) ^^^ BitVec.ofInt 8 x).toNat:Nat):Int)=(crcI c x:Int):=by
 have:=wrap8_lt ((BitVec.ofInt 8 (IntKind.u8.wrap c) ^^^ BitVec.ofInt 8 x).toNat:Nat);unfold crcI;omega
theorem crcI_lt (c x:Int):crcI c x<256:=by
 have:=wrap8_lt ((BitVec.ofInt 8 (IntKind.u8.wrap c) ^^^ BitVec.ofInt 8 x).toNat:Nat);unfold crcI;omega
theorem Z8q:crcT.length=256:=by simp[crcT]
theorem crcT_get {n:Nat} (h:n<256):crcT[n]? = some (crcT.getD n 0):=by
 rw[List.getD_eq_getElem?_getD,List.getElem?_eq_getElem (by rw[Z8q];exact h)];rfl
end Go.Pv
namespace Go.Pv
theorem HT.lpo {Γ:Ctx} {P:Program} {fn:Func} (hP:Γ.P=P) (hn:Γ.n=fn.ntmps) (hm:P.follows .mixedOrders=true) {Y O:Type} (lp:Lp Y O) (x0:Y) (inv:CI) (vk e0:List Nat) (b:∀ g',Bd g' (lp.F g')) (e:Exit) (S0:O→Z1) {c:Code} {s:Z1} {Q:Exit→Z1→Prop} {r:O} (H:lp.l x0=some r) (hq:Q e (S0 r)) (hk:(Zc1 s inv vk e0 ((b lp.l).S x0)=some ((b lp.l).S x0)∧∀ g',(b g').chk ⟨P,fn.ntmps,fn,0,[]⟩ (fun o=>.st e (S0 o)) (b lp.l).S (b lp.l).S c)=(some ((b lp.l).S x0)=some ((b lp.l).S x0)∧∀ g',(b g').sk ⟨P,fn.ntmps,fn,0,[]⟩ (fun o=>.st e (S0 o)) (b lp.l).S (b lp.l).S):=by kernel_rfl):AWp Γ (.loop c) Q s:=by
 obtain⟨h0,h1⟩:=hk ▸ (⟨rfl,fun g'=>(b g').sk_ok _ _ _ _⟩:some ((b lp.l).S x0)=some ((b lp.l).S x0)∧∀ g',(b g').sk ⟨P,fn.ntmps,fn,0,[]⟩ (fun o=>.st e (S0 o)) (b lp.l).S (b lp.l).S);have main:∀ x o,lp.l x=some o→LWp Γ c (fun e' s=>∃ t,Cv Γ s t∧hold ⟨P,fn.ntmps,fn,0,[]⟩ 2 (.st e (S0 o)) e' t) ((b lp.l).S x):=by
  refine lp.pc (fun x o=>LWp Γ c (fun e' s=>∃ t,Cv Γ s t∧hold ⟨P,fn.ntmps,fn,0,[]⟩ 2 (.st e (S0 o)) e' t) ((b lp.l).S x)) (fun g' ih x o hx => ?_);refine LWp.round ?_;refine Bd.sound (E:=⟨P,fn.ntmps,fn,0,[]⟩) hP hn hm (b g') (fun o=>.st e (S0 o)) (b lp.l).S (b lp.l).S c (h1 g') x o hx _ (fun x' hx' s hs => ?_) (fun e' s t hs ht => ?_)
  ·exact LWp.of_Cv hs (ih x' o hx')
  ·cases e' with
   | normal=>exfalso;obtain⟨q1,_,q2⟩:=ht;subst q1;simp[okE] at q2
   | _=>exact⟨t,hs,ht⟩
 refine AWp.loop (LWp.of_Cv (Cv.conv h0) ?_);refine LWp.mono (LWp.cv (main x0 r H)) (fun e' t ht => ?_);obtain⟨rfl,rfl,_⟩:=ht;exact hq
end Go.Pv
namespace Go.Pv.GS
section Defs
variable {α:Type} (cmp:α→α→Option Int)
def insertionSort.l1 (a1 a2 x0:Int) (x1:List α) (x2:Int):Option (List α):=((if(decide (x2>a1))=true then((at? x1 x2)>>=fun b3=>(at? x1 (IntKind.i64.wrap (x2-(1:Int))))>>=fun b4=>(cmp b3 b4)>>=fun t5=>some (decide (t5<(0:Int)))) else(some false)):Option (Bool))>>=fun x6=>if x6=true then((at? x1 (IntKind.i64.wrap (x2-(1:Int))))>>=fun b7=>(at? x1 x2)>>=fun b8=>(at? (x1.set (Int.toNat (x2)) b7) (IntKind.i64.wrap (x2-(1:Int))))>>=fun b9=>insertionSort.l1 a1 a2 x0 ((x1.set (Int.toNat (x2)) b7).set (Int.toNat (IntKind.i64.wrap (x2-(1:Int)))) b8) (IntKind.i64.wrap (x2-(1:Int)))) else(some x1)
partial_fixpoint
def insertionSort.l0 (a1 a2:Int) (x0:List α) (x1:Int):Option (List α):=if(decide (x1<a2))=true then((insertionSort.l1 cmp a1 a2 x1 x0 x1)>>=fun x2=>insertionSort.l0 a1 a2 x2 (IntKind.i64.wrap (x1+(1:Int)))) else(some x0)
partial_fixpoint
def insertionSort.f (a0:List α) (a1 a2:Int):Option (List α):=(insertionSort.l0 cmp a1 a2 a0 (IntKind.i64.wrap (a1+(1:Int))))>>=fun x0=>some x0
def swapRange.l0 (a1 a2 a3:Int) (x0:List α) (x1:Int):Option (List α):=if(decide (x1<a3))=true then((at? x0 (IntKind.i64.wrap (a2+x1)))>>=fun b2=>(at? x0 (IntKind.i64.wrap (a1+x1)))>>=fun b3=>(at? (x0.set (Int.toNat (IntKind.i64.wrap (a1+x1))) b2) (IntKind.i64.wrap (a2+x1)))>>=fun b4=>swapRange.l0 a1 a2 a3 ((x0.set (Int.toNat (IntKind.i64.wrap (a1+x1))) b2).set (Int.toNat (IntKind.i64.wrap (a2+x1))) b3) (IntKind.i64.wrap (x1+(1:Int)))) else(some x0)
partial_fixpoint
def swapRange.f (a0:List α) (a1 a2 a3:Int):Option (List α):=(swapRange.l0 a1 a2 a3 a0 0)>>=fun x0=>some x0
def rotate.l0 (a2:Int) (x0:List α) (x1 x2:Int):Option ((List α)×Int):=if(x1 != x2)=true then(((if(decide (x1>x2))=true then((swapRange.f x0 (IntKind.i64.wrap (a2-x1)) a2 x2)>>=fun t3=>some (t3,IntKind.i64.wrap (x1-x2),x2)) else((swapRange.f x0 (IntKind.i64.wrap (a2-x1)) (IntKind.i64.wrap ((IntKind.i64.wrap (a2+x2))-x1)) x1)>>=fun t4=>some (t4,x1,IntKind.i64.wrap (x2-x1)))):Option ((List α)×Int×Int))>>=fun oo=>match oo with | (x5,x6,x7)=>(rotate.l0 a2 x5 x6 x7)) else(some (x0,x1))
partial_fixpoint
def rotate.f (a0:List α) (a1 a2 a3:Int):Option (List α):=(rotate.l0 a2 a0 (IntKind.i64.wrap (a2-a1)) (IntKind.i64.wrap (a3-a2)))>>=fun oo=>match oo with | (x0,x1)=>((swapRange.f x0 (IntKind.i64.wrap (a2-x1)) a2 x1)>>=fun t2=>some t2)
def symMerge.l0 (a0:List α) (a1 x0 x1:Int):Option (Int):=if(decide (x0<x1))=true then((at? a0 (IntKind.i64.wrap (Int.fdiv (IntKind.u64.wrap (IntKind.i64.wrap (x0+x1))) 2)))>>=fun b2=>(at? a0 a1)>>=fun b3=>(cmp b2 b3)>>=fun t4=>((if(decide (t4<(0:Int)))=true then(some (IntKind.i64.wrap ((IntKind.i64.wrap (Int.fdiv (IntKind.u64.wrap (IntKind.i64.wrap (x0+x1))) 2))+(1:Int)),x1)) else(some (x0,IntKind.i64.wrap (Int.fdiv (IntKind.u64.wrap (IntKind.i64.wrap (x0+x1))) 2)))):Option (Int×Int))>>=fun oo=>match oo with | (x5,x6)=>(symMerge.l0 a0 a1 x5 x6)) else(some x0)
partial_fixpoint
def symMerge.l1 (x0:Int) (x1:List α) (x2:Int):Option (List α):=if(decide (x2<(IntKind.i64.wrap (x0-(1:Int)))))=true then((at? x1 (IntKind.i64.wrap (x2+(1:Int))))>>=fun b3=>(at? x1 x2)>>=fun b4=>(at? (x1.set (Int.toNat (x2)) b3) (IntKind.i64.wrap (x2+(1:Int))))>>=fun b5=>symMerge.l1 x0 ((x1.set (Int.toNat (x2)) b3).set (Int.toNat (IntKind.i64.wrap (x2+(1:Int)))) b4) (IntKind.i64.wrap (x2+(1:Int)))) else(some x1)
partial_fixpoint
def symMerge.l2 (a0:List α) (a2 x0 x1:Int):Option (Int):=if(decide (x0<x1))=true then((at? a0 a2)>>=fun b2=>(at? a0 (IntKind.i64.wrap (Int.fdiv (IntKind.u64.wrap (IntKind.i64.wrap (x0+x1))) 2)))>>=fun b3=>(cmp b2 b3)>>=fun t4=>((if(!(decide (t4<(0:Int))))=true then(some (IntKind.i64.wrap ((IntKind.i64.wrap (Int.fdiv (IntKind.u64.wrap (IntKind.i64.wrap (x0+x1))) 2))+(1:Int)),x1)) else(some (x0,IntKind.i64.wrap (Int.fdiv (IntKind.u64.wrap (IntKind.i64.wrap (x0+x1))) 2)))):Option (Int×Int))>>=fun oo=>match oo with | (x5,x6)=>(symMerge.l2 a0 a2 x5 x6)) else(some x0)
partial_fixpoint
def symMerge.l3 (x0:Int) (x1:List α) (x2:Int):Option (List α):=if(decide (x2>x0))=true then((at? x1 (IntKind.i64.wrap (x2-(1:Int))))>>=fun b3=>(at? x1 x2)>>=fun b4=>(at? (x1.set (Int.toNat (x2)) b3) (IntKind.i64.wrap (x2-(1:Int))))>>=fun b5=>symMerge.l3 x0 ((x1.set (Int.toNat (x2)) b3).set (Int.toNat (IntKind.i64.wrap (x2-(1:Int)))) b4) (IntKind.i64.wrap (x2-(1:Int)))) else(some x1)
partial_fixpoint
def symMerge.l4 (a0:List α) (a1 a2 a3 x0 x1:Int):Option (Int):=if(decide (x0<x1))=true then((at? a0 (IntKind.i64.wrap ((IntKind.i64.wrap ((IntKind.i64.wrap ((IntKind.i64.wrap (Int.fdiv (IntKind.u64.wrap (IntKind.i64.wrap (a1+a3))) 2))+a2))-(1:Int)))-(IntKind.i64.wrap (Int.fdiv (IntKind.u64.wrap (IntKind.i64.wrap (x0+x1))) 2)))))>>=fun b2=>(at? a0 (IntKind.i64.wrap (Int.fdiv (IntKind.u64.wrap (IntKind.i64.wrap (x0+x1))) 2)))>>=fun b3=>(cmp b2 b3)>>=fun t4=>((if(!(decide (t4<(0:Int))))=true then(some (IntKind.i64.wrap ((IntKind.i64.wrap (Int.fdiv (IntKind.u64.wrap (IntKind.i64.wrap (x0+x1))) 2))+(1:Int)),x1)) else(some (x0,IntKind.i64.wrap (Int.fdiv (IntKind.u64.wrap (IntKind.i64.wrap (x0+x1))) 2)))):Option (Int×Int))>>=fun oo=>match oo with | (x5,x6)=>(symMerge.l4 a0 a1 a2 a3 x5 x6)) else(some x0)
partial_fixpoint
def symMerge.f (a0:List α) (a1 a2 a3:Int):Option (List α):=if((IntKind.i64.wrap (a2-a1))==(1:Int))=true then((symMerge.l0 cmp a0 a1 a2 a3)>>=fun x0=>(symMerge.l1 x0 a0 a1)>>=fun x1=>some x1) else(if((IntKind.i64.wrap (a3-a2))==(1:Int))=true then((symMerge.l2 cmp a0 a2 a1 a2)>>=fun x2=>(symMerge.l3 x2 a0 a2)>>=fun x3=>some x3) else(((if(decide (a2>(IntKind.i64.wrap (Int.fdiv (IntKind.u64.wrap (IntKind.i64.wrap (a1+a3))) 2))))=true then(some (IntKind.i64.wrap ((IntKind.i64.wrap ((IntKind.i64.wrap (Int.fdiv (IntKind.u64.wrap (IntKind.i64.wrap (a1+a3))) 2))+a2))-a3),IntKind.i64.wrap (Int.fdiv (IntKind.u64.wrap (IntKind.i64.wrap (a1+a3))) 2))) else(some (a1,a2))):Option (Int×Int))>>=fun oo=>match oo with | (x4,x5)=>((symMerge.l4 cmp a0 a1 a2 a3 x4 x5)>>=fun x6=>((if(decide (x6<a2))=true then(some (decide (a2<(IntKind.i64.wrap ((IntKind.i64.wrap ((IntKind.i64.wrap (Int.fdiv (IntKind.u64.wrap (IntKind.i64.wrap (a1+a3))) 2))+a2))-x6))))) else(some false)):Option (Bool))>>=fun x7=>((if x7=true then((rotate.f a0 x6 a2 (IntKind.i64.wrap ((IntKind.i64.wrap ((IntKind.i64.wrap (Int.fdiv (IntKind.u64.wrap (IntKind.i64.wrap (a1+a3))) 2))+a2))-x6)))>>=fun t8=>some t8) else(some a0)):Option (List α))>>=fun x9=>((if(decide (a1<x6))=true then(some (decide (x6<(IntKind.i64.wrap (Int.fdiv (IntKind.u64.wrap (IntKind.i64.wrap (a1+a3))) 2))))) else(some false)):Option (Bool))>>=fun x10=>((if x10=true then((symMerge.f x9 a1 x6 (IntKind.i64.wrap (Int.fdiv (IntKind.u64.wrap (IntKind.i64.wrap (a1+a3))) 2)))>>=fun t11=>some t11) else(some x9)):Option (List α))>>=fun x12=>((if(decide ((IntKind.i64.wrap (Int.fdiv (IntKind.u64.wrap (IntKind.i64.wrap (a1+a3))) 2))<(IntKind.i64.wrap ((IntKind.i64.wrap ((IntKind.i64.wrap (Int.fdiv (IntKind.u64.wrap (IntKind.i64.wrap (a1+a3))) 2))+a2))-x6))))=true then(some (decide ((IntKind.i64.wrap ((IntKind.i64.wrap ((IntKind.i64.wrap (Int.fdiv (IntKind.u64.wrap (IntKind.i64.wrap (a1+a3))) 2))+a2))-x6))<a3))) else(some false)):Option (Bool))>>=fun x13=>((if x13=true then((symMerge.f x12 (IntKind.i64.wrap (Int.fdiv (IntKind.u64.wrap (IntKind.i64.wrap (a1+a3))) 2)) (IntKind.i64.wrap ((IntKind.i64.wrap ((IntKind.i64.wrap (Int.fdiv (IntKind.u64.wrap (IntKind.i64.wrap (a1+a3))) 2))+a2))-x6)) a3)>>=fun t14=>some t14) else(some x12)):Option (List α))>>=fun x15=>some x15)))
partial_fixpoint
def stable.l0 (a1:Int) (x0:List α) (x1 x2:Int):Option ((List α)×Int):=if(decide (x2≤a1))=true then((insertionSort.f cmp x0 x1 x2)>>=fun t3=>stable.l0 a1 t3 x2 (IntKind.i64.wrap (x2+(20:Int)))) else(some (x0,x1))
partial_fixpoint
def stable.l2 (a1 x0:Int) (x1:List α) (x2 x3:Int):Option ((List α)×Int):=if(decide (x3≤a1))=true then((symMerge.f cmp x1 x2 (IntKind.i64.wrap (x2+x0)) x3)>>=fun t4=>stable.l2 a1 x0 t4 x3 (IntKind.i64.wrap (x3+(IntKind.i64.wrap ((2:Int)*x0))))) else(some (x1,x2))
partial_fixpoint
def stable.l1 (a1:Int) (x0:List α) (x1:Int):Option (List α):=if(decide (x1<a1))=true then((stable.l2 cmp a1 x1 x0 0 (IntKind.i64.wrap ((2:Int)*x1)))>>=fun oo=>match oo with | (x2,x3)=>(((if(decide ((IntKind.i64.wrap (x3+x1))<a1))=true then((symMerge.f cmp x2 x3 (IntKind.i64.wrap (x3+x1)) a1)>>=fun t4=>some t4) else(some x2)):Option (List α))>>=fun x5=>stable.l1 a1 x5 (IntKind.i64.wrap (x1*(2:Int))))) else(some x0)
partial_fixpoint
def stable.f (a0:List α) (a1:Int):Option (List α):=(stable.l0 cmp a1 a0 0 20)>>=fun oo=>match oo with | (x0,x1)=>((insertionSort.f cmp x0 x1 a1)>>=fun t2=>(stable.l1 cmp a1 t2 20)>>=fun x3=>some x3)
def SortStable.f (a0:List α):Option (List α):=(stable.f cmp a0 (a0.length:Int))>>=fun t0=>some t0
end Defs
theorem snocRec {α:Type} {motive:List α→Prop} (nil:motive []) (snoc:∀ (l:List α) (x:α),motive l→motive (l++[x])) (l:List α):motive l:=by
 have:∀ n (l:List α),l.length=n→motive l:=by
  intro n
  induction n with
  | zero=>intro l h;rw[List.length_eq_zero_iff.1 h];exact nil
  | succ n ih =>
   intro l h;rcases List.eq_nil_or_concat l with rfl | ⟨P,p,rfl⟩
   ·exact nil
   ·rw[List.concat_eq_append];exact snoc P p (ih P (by simp at h;omega))
 exact this _ l rfl
section Merge
variable {α:Type} (lt:α→α→Bool)
def mrg:List α→List α→List α
 | [],ys=>ys
 | x::xs,[]=>x::xs
 | x::xs,y::ys=>if lt y x=true then y::mrg (x::xs) ys else x::mrg xs (y::ys)
termination_by xs ys=>xs.length+ys.length
theorem Z6b (ys:List α):mrg lt [] ys=ys:=by rw[mrg]
theorem Z83 (xs:List α):mrg lt xs []=xs:=by cases xs<;>rw[mrg]
theorem mrg_cc (x:α) (xs:List α) (y:α) (ys:List α):mrg lt (x::xs) (y::ys)=if lt y x=true then y::mrg lt (x::xs) ys else x::mrg lt xs (y::ys):=by rw[mrg]
theorem Zac {x y:α} (h:lt y x=true) (xs ys:List α):mrg lt (x::xs) (y::ys)=y::mrg lt (x::xs) ys:=by rw[mrg_cc,if_pos h]
theorem Zad {x y:α} (h:lt y x=false) (xs ys:List α):mrg lt (x::xs) (y::ys)=x::mrg lt xs (y::ys):=by rw[mrg_cc,if_neg (by simp[h])]
structure SWO (lt:α→α→Bool):Prop where
 asymm:∀ a b,lt a b=true→lt b a=false
 trans:∀ a b c,lt b a=false→lt c b=false→lt c a=false
variable {lt}
theorem SWO.strict (h:SWO lt) {a b c:α} (h1:lt b a=true) (h2:lt c b=true):lt c a=true:=by
 cases e:lt c a with
 | true=>rfl
 | false=>rw[h.trans a c b e (h.asymm _ _ h2)] at h1;exact h1
abbrev Srt (lt:α→α→Bool) (l:List α):Prop:=l.Pairwise (fun a b=>lt b a=false)
theorem Z7b:∀ (n:Nat) (X1 X2 Y1 Y2:List α),X1.length+Y1.length≤n→(∀ x∈X1,∀ y∈Y2,lt y x=false)→(∀ y∈Y1,∀ x∈X2,lt y x=true) →
  mrg lt (X1++X2) (Y1++Y2)=mrg lt X1 Y1++mrg lt X2 Y2:=by
 intro n
 induction n with
 | zero =>
  intro X1 X2 Y1 Y2 hn _ _;obtain rfl:X1=[]:=List.length_eq_zero_iff.1 (by omega);obtain rfl:Y1=[]:=List.length_eq_zero_iff.1 (by omega);simp[Z6b]
 | succ n ih =>
  intro X1 X2 Y1 Y2 hn h1 h2;cases X1 with
  | nil =>
   cases Y1 with
   | nil=>simp[Z6b]
   | cons y Y1 =>
    cases X2 with
    | nil=>simp[Z6b]
    | cons x X2 =>
     have hyx:=h2 y (by simp) x (by simp);have:=ih [] (x::X2) Y1 Y2 (by simp at hn ⊢;omega) (by simp) (fun y hy=>h2 y (by simp[hy]));simp only[List.nil_append,List.cons_append,Z6b] at this ⊢;rw[Zac _ hyx,this]
  | cons x X1 =>
   cases Y1 with
   | nil =>
    cases Y2 with
    | nil=>simp[Z83]
    | cons y Y2 =>
     have hyx:=h1 x (by simp) y (by simp);have:=ih X1 X2 [] (y::Y2) (by simp at hn ⊢;omega) (fun x hx=>h1 x (by simp[hx])) (by simp);simp only[List.nil_append,List.cons_append,Z83] at this ⊢;rw[Zad _ hyx,this]
   | cons y Y1 =>
    simp only[List.length_cons] at hn;simp only[List.cons_append];cases e:lt y x with
    | true =>
     have:=ih (x::X1) X2 Y1 Y2 (by simp;omega) h1 (fun y hy=>h2 y (by simp[hy]));simp only[List.cons_append] at this;rw[Zac _ e,Zac _ e,this,List.cons_append]
    | false =>
     have:=ih X1 X2 (y::Y1) Y2 (by simp;omega) (fun x hx=>h1 x (by simp[hx])) h2;simp only[List.cons_append] at this;rw[Zad _ e,Zad _ e,this,List.cons_append]
theorem mrg_assoc (h:SWO lt):∀ (n:Nat) (A B C:List α),A.length+B.length+C.length≤n→mrg lt A (mrg lt B C)=mrg lt (mrg lt A B) C:=by
 intro n
 induction n with
 | zero =>
  intro A B C hn;obtain rfl:A=[]:=List.length_eq_zero_iff.1 (by omega);simp[Z6b]
 | succ n ih =>
  intro A B C hn;cases A with
  | nil=>simp[Z6b]
  | cons a A =>
  cases B with
  | nil=>simp[Z6b,Z83]
  | cons b B =>
  cases C with
  | nil=>simp[Z83]
  | cons c C =>
  simp only[List.length_cons] at hn;cases e1:lt b a with
  | true =>
   rw[Zac (xs:=A) _ e1];cases e2:lt c b with
   | true =>
    have e3:=h.strict e1 e2;rw[Zac (xs:=B) _ e2,Zac _ e3,ih (a::A) (b::B) C (by simp;omega),Zac _ e1,Zac _ e2]
   | false =>
    rw[Zad (xs:=B) _ e2,Zac _ e1,ih (a::A) B (c::C) (by simp;omega),Zad _ e2]
  | false =>
   rw[Zad (ys:=B) _ e1];cases e2:lt c b with
   | true =>
    rw[Zac (xs:=B) _ e2];cases e3:lt c a with
    | true =>
     rw[Zac _ e3,Zac _ e3,ih (a::A) (b::B) C (by simp;omega),Zad _ e1]
    | false =>
     rw[Zad _ e3,Zad _ e3,← ih A (b::B) (c::C) (by simp;omega),Zac _ e2]
   | false =>
    have e3:=h.trans _ _ _ e1 e2;rw[Zad (xs:=B) _ e2,Zad _ e1,Zad _ e3,← ih A (b::B) (c::C) (by simp;omega),Zad _ e2]
theorem mrg_perm:∀ (n:Nat) (X Y:List α),X.length+Y.length≤n→(mrg lt X Y).Perm (X++Y):=by
 intro n
 induction n with
 | zero =>
  intro X Y hn;obtain rfl:X=[]:=List.length_eq_zero_iff.1 (by omega);simp[Z6b]
 | succ n ih =>
  intro X Y hn;cases X with
  | nil=>simp[Z6b]
  | cons x X =>
  cases Y with
  | nil=>simp[Z83]
  | cons y Y =>
  simp only[List.length_cons] at hn;cases e:lt y x with
  | true =>
   rw[Zac _ e];have:=ih (x::X) Y (by simp;omega);exact((List.Perm.cons y this).trans (List.perm_middle (l₁:=x::X) (l₂:=Y)).symm)
  | false =>
   rw[Zad _ e];have:=ih X (y::Y) (by simp;omega);exact List.Perm.cons x this
theorem mrg_len (X Y:List α):(mrg lt X Y).length=X.length+Y.length:=by
 rw[(mrg_perm _ X Y (Nat.le_refl _)).length_eq,List.length_append]
theorem mem_mrg {X Y:List α} {z:α}:z∈mrg lt X Y↔z∈X∨z∈Y:=by
 rw[(mrg_perm _ X Y (Nat.le_refl _)).mem_iff,List.mem_append]
theorem mrg_sorted (h:SWO lt):∀ (n:Nat) (X Y:List α),X.length+Y.length≤n→Srt lt X→Srt lt Y→Srt lt (mrg lt X Y):=by
 intro n
 induction n with
 | zero =>
  intro X Y hn _ hy;obtain rfl:X=[]:=List.length_eq_zero_iff.1 (by omega);rw[Z6b];exact hy
 | succ n ih =>
  intro X Y hn hx hy;cases X with
  | nil=>rw[Z6b];exact hy
  | cons x X =>
  cases Y with
  | nil=>rw[Z83];exact hx
  | cons y Y =>
  simp only[List.length_cons] at hn;have hx':=List.pairwise_cons.1 hx;have hy':=List.pairwise_cons.1 hy;cases e:lt y x with
  | true =>
   rw[Zac _ e];refine List.pairwise_cons.2 ⟨fun z hz => ?_,ih (x::X) Y (by simp;omega) hx hy'.2⟩;rcases mem_mrg.1 hz with hz | hz
   ·rcases List.mem_cons.1 hz with rfl | hz
    ·exact h.asymm _ _ e
    ·exact h.trans _ _ _ (h.asymm _ _ e) (hx'.1 z hz)
   ·exact hy'.1 z hz
  | false =>
   rw[Zad _ e];refine List.pairwise_cons.2 ⟨fun z hz => ?_,ih X (y::Y) (by simp;omega) hx'.2 hy⟩;rcases mem_mrg.1 hz with hz | hz
   ·exact hx'.1 z hz
   ·rcases List.mem_cons.1 hz with rfl | hz
    ·exact e
    ·exact h.trans _ _ _ e (hy'.1 z hz)
def S (lt:α→α→Bool) (l:List α):List α:=l.foldl (fun acc x=>mrg lt acc [x]) []
theorem S_nil:S lt ([]:List α)=[]:=rfl
theorem S_snoc (l:List α) (x:α):S lt (l++[x])=mrg lt (S lt l) [x]:=by simp[S]
theorem S_append (h:SWO lt) (l1:List α):∀ l2:List α,S lt (l1++l2)=mrg lt (S lt l1) (S lt l2):=by
 intro l2
 induction l2 using snocRec with
 | nil=>simp[S_nil,Z83]
 | snoc l2 x ih=>rw[← List.append_assoc,S_snoc,ih,S_snoc,mrg_assoc h _ _ _ _ (Nat.le_refl _)]
theorem S_perm (l:List α):(S lt l).Perm l:=by
 induction l using snocRec with
 | nil=>exact List.Perm.refl _
 | snoc l x ih=>rw[S_snoc];exact(mrg_perm _ _ _ (Nat.le_refl _)).trans (List.Perm.append ih (List.Perm.refl _))
theorem Z6t (l:List α):(S lt l).length=l.length:=(S_perm l).length_eq
theorem Z9x (h:SWO lt) (l:List α):Srt lt (S lt l):=by
 induction l using snocRec with
 | nil=>exact List.Pairwise.nil
 | snoc l x ih=>rw[S_snoc];exact mrg_sorted h _ _ _ (Nat.le_refl _) ih (List.pairwise_singleton _ _)
theorem mrg_snoc_T {P:List α} {p x:α} (e:lt x p=true):mrg lt (P++[p]) [x]=mrg lt P [x]++[p]:=by
 have:=Z7b (lt:=lt) _ P [p] [x] [] (Nat.le_refl _) (by simp) (by simp[e]);simpa[Z83] using this
theorem mrg_snoc_F (h:SWO lt) {P:List α} {p x:α} (e:lt x p=false) (hs:Srt lt (P++[p])):mrg lt (P++[p]) [x]=P++[p]++[x]:=by
 have:=Z7b (lt:=lt) _ (P++[p]) [] [] [x] (Nat.le_refl _) (by
  intro q hq y hy;simp only[List.mem_singleton] at hy;subst hy;rcases List.mem_append.1 hq with hq | hq
  ·exact h.trans _ _ _ ((List.pairwise_append.1 hs).2.2 q hq p (by simp)) e
  ·simp only[List.mem_singleton] at hq;subst hq;exact e) (by simp)
 simpa[Z6b,Z83] using this
end Merge
theorem Z7t {α β:Type} (A:List α) (x:α) (B:List α) {i:Int} (h:i=(A.length:Int)) (f:α→Option β):(at? (A++x::B) i>>=f)=f x:=by
 subst h;have:at? (A++x::B) (A.length:Int)=some x:=by unfold at?;rw[if_pos (by omega)];simp
 rw[this];rfl
theorem Z95 {α:Type} (A:List α) (x y:α) (B:List α) {n:Nat} (h:n=A.length):(A++x::B).set n y=A++y::B:=by
 subst h;simp
theorem mid64 {a b:Int} (h0:0≤a) (h1:0≤b) (h2:a+b<4611686018427387904):IntKind.i64.wrap (Int.fdiv (IntKind.u64.wrap (IntKind.i64.wrap (a+b))) 2)=(a+b) / 2:=by
 rw[Z8 (n:=a+b) (by omega) (by omega)];have:IntKind.u64.wrap (a+b)=a+b:=by
  simp only[IntKind.wrap,IntKind.signed,IntKind.bits];simp;omega
 rw[this,Int.fdiv_eq_ediv_of_nonneg _ (by omega),Z8 (by omega) (by omega)]
section Run
variable {α:Type} {cmp:α→α→Option Int} {lt:α→α→Bool}
abbrev Cmp (cmp:α→α→Option Int) (lt:α→α→Bool):Prop:=∀ a b,∃ c,cmp a b=some c∧decide (c<0)=lt a b
theorem ins_l1 (hc:Cmp cmp lt) (h:SWO lt) (A:List α) (x:α) (a1 a2 x0:Int) (ha:a1=(A.length:Int)):∀ (n:Nat) (P Q:List α) (j:Int),P.length=n→Srt lt P→j=((A.length+P.length:Nat):Int)→(A.length+P.length:Nat)<10000000000000000 →
  insertionSort.l1 cmp a1 a2 x0 (A++P++x::Q) j=some (A++mrg lt P [x]++Q):=by
 intro n
 induction n with
 | zero =>
  intro P Q j hn hs hj hb;obtain rfl:P=[]:=List.length_eq_zero_iff.1 hn;rw[insertionSort.l1,if_neg (by simp at hj ⊢;omega)];simp[Z6b]
 | succ n ih =>
  intro P Q j hn hs hj hb;rcases List.eq_nil_or_concat P with rfl | ⟨P,p,rfl⟩
  ·simp at hn
  simp only[List.concat_eq_append] at *;simp only[List.length_append,List.length_singleton] at hn hj hb;have hw:IntKind.i64.wrap (j-1)=((A.length+P.length:Nat):Int):=by rw[Z8 (by omega) (by omega)];omega
  have e1:A++(P++[p])++x::Q=(A++P++[p])++x::Q:=by simp
  have e2:A++(P++[p])++x::Q=(A++P)++p::(x::Q):=by simp
  obtain⟨c,hcc,hcl⟩:=hc x p;have hj1:j=((A++P++[p]).length:Int):=by simp;omega
  rw[insertionSort.l1,hw,if_pos (by simp;omega)];rw[e1,Z7t _ _ _ hj1];rw[← e1,e2,Z7t _ _ _ (by simp),hcc,sb,hcl,sb];cases e:lt x p with
  | true =>
   rw[if_pos rfl,Z7t _ _ _ (by simp),← e2,e1,Z7t _ _ _ hj1,Z95 _ _ _ _ (by rw[hj1];simp;omega)];rw[show(A++P++[p]++p::Q)=(A++P)++p::(p::Q) by simp,Z7t _ _ _ (by simp),Z95 _ _ _ _ (by simp;omega)];rw[ih P (p::Q) _ (by omega) (List.pairwise_append.1 hs).1 rfl (by omega),mrg_snoc_T e];simp
  | false =>
   rw[if_neg (by simp),mrg_snoc_F h e hs];simp
theorem ins_l0 (hc:Cmp cmp lt) (h:SWO lt) (A:List α) (a1:Int) (ha:a1=(A.length:Int)):∀ (T D B:List α) (a2 i:Int),i=((A.length+D.length:Nat):Int)→a2=((A.length+D.length+T.length:Nat):Int) →
  (A.length+D.length+T.length:Nat)<10000000000000000→insertionSort.l0 cmp a1 a2 (A++S lt D++T++B) i=some (A++S lt (D++T)++B):=by
 intro T
 induction T with
 | nil =>
  intro D B a2 i hi h2 hb;rw[insertionSort.l0,if_neg (by simp at h2 ⊢;omega)];simp
 | cons x T ih =>
  intro D B a2 i hi h2 hb;simp only[List.length_cons] at h2 hb;rw[insertionSort.l0,if_pos (by simp;omega)];have e1:A++S lt D++x::T++B=A++S lt D++x::(T++B):=by simp
  rw[e1,ins_l1 hc h A x a1 a2 i ha _ (S lt D) (T++B) i rfl (Z9x h D) (by rw[Z6t];exact hi) (by rw[Z6t];omega),sb,Z8 (by omega) (by omega)];rw[← S_snoc];have:=ih (D++[x]) B a2 (i+1) (by simp;omega) (by simp;omega) (by simp;omega);simp only[List.append_assoc,List.singleton_append] at this ⊢;exact this
theorem ins_f (hc:Cmp cmp lt) (h:SWO lt) (A T B:List α) (a1 a2:Int) (ha:a1=(A.length:Int)) (h2:a2=((A.length+T.length:Nat):Int)) (hb:A.length+T.length<10000000000000000) :
  insertionSort.f cmp (A++T++B) a1 a2=some (A++S lt T++B):=by
 unfold insertionSort.f;rw[Z8 (by omega) (by omega)];cases T with
 | nil =>
  rw[insertionSort.l0,if_neg (by simp at h2 ⊢;omega),sb];simp[S_nil]
 | cons x T =>
  simp only[List.length_cons] at h2 hb;have:=ins_l0 hc h A a1 ha T [x] B a2 (a1+1) (by simp;omega) (by simp;omega) (by simp;omega);have e:S lt [x]=[x]:=by simp[S,Z6b]
  rw[e] at this;simp only[List.append_assoc,List.singleton_append,List.cons_append,List.nil_append] at this ⊢;rw[this];rfl
theorem swp_l0 (A M C:List α) (a1 a2 a3:Int) (ha:a1=(A.length:Int)):∀ (U V W X:List α) (i:Int),V.length=X.length→W.length=U.length→i=(U.length:Int) →
  a2=((A.length+U.length+V.length+M.length:Nat):Int)→a3=((U.length+V.length:Nat):Int)→A.length+U.length+V.length+M.length+U.length+V.length<10000000000000000 →
  swapRange.l0 a1 a2 a3 (A++U++V++M++W++X++C) i=some (A++U++X++M++W++V++C):=by
 intro U V
 induction V generalizing U with
 | nil =>
  intro W X i h1 h2 hi _ h3 _;obtain rfl:X=[]:=List.length_eq_zero_iff.1 (by simpa using h1.symm);rw[swapRange.l0,if_neg (by simp at h3 ⊢;omega)]
 | cons v V ih =>
  intro W X i h1 h2 hi h3 h4 hb;cases X with
  | nil=>simp at h1
  | cons x X =>
  simp only[List.length_cons] at h1 h3 h4 hb;have e1:A++U++v::V++M++W++x::X++C=(A++U++v::V++M++W)++x::(X++C):=by simp
  have e2:A++U++v::V++M++W++x::X++C=(A++U)++v::(V++M++W++x::X++C):=by simp
  have w1:IntKind.i64.wrap (a1+i)=((A.length+U.length:Nat):Int):=by rw[Z8 (by omega) (by omega)];omega
  have w2:IntKind.i64.wrap (a2+i)=((A.length+U.length+(V.length+1)+M.length+U.length:Nat):Int):=by rw[Z8 (by omega) (by omega)];omega
  have w3:IntKind.i64.wrap (i+1)=((U.length+1:Nat):Int):=by rw[Z8 (by omega) (by omega)];omega
  rw[swapRange.l0,if_pos (by simp;omega),w1,w2,w3,e1,Z7t _ _ _ (by simp;omega),← e1,e2,Z7t _ _ _ (by simp),Z95 _ _ _ _ (by simp;omega)];rw[show(A++U++x::(V++M++W++x::X++C))=(A++U++x::V++M++W)++x::(X++C) by simp,Z7t _ _ _ (by simp;omega),Z95 _ _ _ _ (by simp;omega)];have:=ih (U++[x]) (W++[v]) X ((U.length+1:Nat):Int) (by omega) (by simp;omega) (by simp) (by simp;omega) (by simp;omega) (by simp;omega);simp only[List.append_assoc,List.singleton_append,List.cons_append,List.nil_append] at this ⊢;rw[this]
theorem swp_f (A U M W C:List α) (a1 a2 a3:Int) (ha:a1=(A.length:Int)) (h2:a2=((A.length+U.length+M.length:Nat):Int)) (h3:a3=(U.length:Int)) (hw:W.length=U.length) (hb:A.length+U.length+M.length+U.length<10000000000000000) :
  swapRange.f (A++U++M++W++C) a1 a2 a3=some (A++W++M++U++C):=by
 unfold swapRange.f;have:=swp_l0 A M C a1 a2 a3 ha [] U [] W 0 hw.symm rfl rfl (by simp;omega) (by simp;omega) (by simp;omega);simp only[List.append_nil,List.nil_append,List.append_assoc] at this ⊢;rw[this];rfl
theorem rot_l0 (m:Int):∀ (n:Nat) (A P Q C:List α) (i j:Int),P.length+Q.length≤n→0<P.length→0<Q.length→i=(P.length:Int)→j=(Q.length:Int)→m=((A.length+P.length:Nat):Int)→A.length+P.length+Q.length<10000000000000000 →
  ∃ (A' P' Q' C':List α),rotate.l0 m (A++P++Q++C) i j=some (A'++P'++Q'++C',(P'.length:Int))∧P'.length=Q'.length∧0<P'.length∧m=((A'.length+P'.length:Nat):Int) ∧
   A'.length+P'.length+Q'.length<10000000000000000∧A'++Q'++P'++C'=A++Q++P++C:=by
 intro n
 induction n with
 | zero=>intro A P Q C i j hn h1 h2;omega
 | succ n ih =>
  intro A P Q C i j hn h1 h2 hi hj hm hb;rw[rotate.l0];by_cases hij:i=j
  ·subst hij
   rw[if_neg (by simp)];exact⟨A,P,Q,C,by rw[hi],by omega,h1,hm,hb,rfl⟩
  rw[if_pos (by simpa using hij)];by_cases hgt:i>j
  ·rw[if_pos (by simpa using hgt)]
   obtain⟨P1,P2,rfl,hl⟩:∃ P1 P2,P=P1++P2∧P1.length=Q.length:=⟨P.take Q.length,P.drop Q.length,by simp,by simp;omega⟩
   simp only[List.length_append] at hn h1 hi hm hb;have w1:IntKind.i64.wrap (m-i)=(A.length:Int):=by rw[Z8 (by omega) (by omega)];omega
   have w2:IntKind.i64.wrap (i-j)=(P2.length:Int):=by rw[Z8 (by omega) (by omega)];omega
   have hs:=swp_f A P1 P2 Q C (A.length:Int) m j rfl (by omega) (by omega) (by omega) (by omega);rw[w1,w2,show A++(P1++P2)++Q++C=A++P1++P2++Q++C by simp,hs,sb,sb];simp only[];obtain⟨A',P',Q',C',g1,g2,g3,g4,g5,g6⟩:=ih (A++Q) P2 P1 C (P2.length:Int) j (by omega) (by omega) (by omega) rfl (by omega) (by simp;omega) (by simp;omega);exact⟨A',P',Q',C',g1,g2,g3,g4,g5,by rw[g6];simp⟩
  ·rw[if_neg (by simpa using hgt)]
   obtain⟨Q1,Q2,rfl,hl⟩:∃ Q1 Q2,Q=Q1++Q2∧Q2.length=P.length:=⟨Q.take (Q.length-P.length),Q.drop (Q.length-P.length),by simp,by simp;omega⟩
   simp only[List.length_append] at hn h2 hj hb;have w1:IntKind.i64.wrap (m-i)=(A.length:Int):=by rw[Z8 (by omega) (by omega)];omega
   have w2:IntKind.i64.wrap (j-i)=(Q1.length:Int):=by rw[Z8 (by omega) (by omega)];omega
   have w3:IntKind.i64.wrap (IntKind.i64.wrap (m+j)-i)=((A.length+P.length+Q1.length:Nat):Int):=by rw[Z8 (n:=m+j) (by omega) (by omega),Z8 (by omega) (by omega)];omega
   have hs:=swp_f A P Q1 Q2 C (A.length:Int) ((A.length+P.length+Q1.length:Nat):Int) i rfl rfl hi (by omega) (by omega);rw[w1,w2,w3,show A++P++(Q1++Q2)++C=A++P++Q1++Q2++C by simp,hs,sb,sb];simp only[];obtain⟨A',P',Q',C',g1,g2,g3,g4,g5,g6⟩:=ih A Q2 Q1 (P++C) i (Q1.length:Int) (by omega) (by omega) (by omega) (by omega) rfl (by omega) (by omega);refine⟨A',P',Q',C',?_,g2,g3,g4,g5,by rw[g6];simp⟩;rw[show A++Q2++Q1++P++C=A++Q2++Q1++(P++C) by simp];exact g1
theorem rot_f (A P Q C:List α) (a m b:Int) (ha:a=(A.length:Int)) (hm:m=((A.length+P.length:Nat):Int)) (hb:b=((A.length+P.length+Q.length:Nat):Int)) (h1:0<P.length) (h2:0<Q.length) (hB:A.length+P.length+Q.length<10000000000000000) :
  rotate.f (A++P++Q++C) a m b=some (A++Q++P++C):=by
 unfold rotate.f;rw[Z8 (n:=m-a) (by omega) (by omega),Z8 (n:=b-m) (by omega) (by omega)];obtain⟨A',P',Q',C',g1,g2,g3,g4,g5,g6⟩:=rot_l0 m _ A P Q C (m-a) (b-m) (Nat.le_refl _) h1 h2 (by omega) (by omega) hm hB;rw[g1,sb];simp only[];have w1:IntKind.i64.wrap (m-(P'.length:Int))=(A'.length:Int):=by rw[Z8 (by omega) (by omega)];omega
 have hs:=swp_f A' P' [] Q' C' (A'.length:Int) m (P'.length:Int) rfl (by simp;omega) rfl g2.symm (by simp;omega);simp only[List.append_nil] at hs;rw[w1,hs,sb,g6]
end Run
end Go.Pv.GS
