import Derived.Laws.MakeOwn
import Derived.Lib.Builder
import Derived.Lib.UnsafeStr
import Derived.Test.YtbmdealiikoplaaGreatPxEvalDoes02
set_option linter.unusedVariables false
set_option linter.unusedSimpArgs false
namespace Go.Pv
theorem run_eql_slice {P:Program} {t e:TypeId} (ht:P.underlying t=some (.slice e)) (b:Option Addr) (n c n' c':Nat) (w:World) :
  (binOp .eql t (.slice b n c) (.slice none n' c')).run P w = .ok (.bool b.isNone) w:=by
 have h:(Op.equal t (.slice b n c) (.slice none n' c')).run P w = .ok b.isNone w:=by
  unfold Op.equal Op.maxDepth
  rw[Op.equalIn]
  cases b<;>simp only[Sem.run_bind,run_underlying' ht,Result.andThen_ok,Sem.run_pure]<;>rfl
 show(do pure (.bool (← Op.equal t (.slice b n c) (.slice none n' c'))):Sem Value).run P w=_
 rw[Sem.run_bind,h];rfl
def nilA:AVal→Option Bool
 | .im (.row (_::_))=>some false
 | .im (.sc (.slice (some _) _ _))=>some false
 | .im (.sc (.slice none _ _))=>some true
 | _=>none
theorem nilA_rep {w:World} {I:Nat→Prop} {κ:Nat→Option KI} {x:AVal} {v:Value} {r:Bool} (h:nilA x=some r) (hr:Rep w I κ x v):∃ b n c,v = .slice b n c∧b.isNone=r:=by
 unfold nilA at h
 split at h
 ·obtain rfl:=Option.some.inj h
  cases hr with
  | im h=>cases h with
   | row u hn=>exact⟨_,_,_,rfl,rfl⟩
 ·obtain rfl:=Option.some.inj h;exact⟨_,_,_,hr.sc_inv,rfl⟩
 ·obtain rfl:=Option.some.inj h;exact⟨_,_,_,hr.sc_inv,rfl⟩
 ·simp at h
def xNil:Ext where
 f P o s:=match o.op with
  | .binOp .eql t x (.const (.slice none _ _)) _=>match P.underlying t,nilA (s.eval x) with
   | some (.slice _),some r=>some ⟨[],[],.im (.sc (.bool r)),[],[]⟩
   | _,_=>none
  | _=>none
 ok P o s e he hp:=by
  split at he
  ·rename_i t x n' c' _ ho
   split at he
   ·rename_i el r ht hr
    obtain rfl:=Option.some.inj he
    refine .quiet rfl fun Γ κ I s2 a w hP hrel hn => ?_
    have g:=opd hrel hn x (by simp[ho,Op.operands]) rfl
    obtain⟨b,n,c,e,rfl⟩:=nilA_rep hr g
    refine⟨.bool b.isNone,?_,.im (.sc _)⟩
    have hc:a.eval (.const (.slice none n' c')) = .slice none n' c':=rfl
    simp only[execOp,ho,e,hc,eqGuard]
    simp[run_eql_slice ht]
   ·simp at he
  ·simp at he
theorem AWp.nilSplit {Γ:Ctx} {c:Code} {Q:Exit→AState→Prop} {s:AState} (x:Nat) (hx:s.get x = .im (.row [])) (h:∀ b n,AWp Γ c Q (s.put (some x) (.im (.sc (.slice b 0 n))))):AWp Γ c Q s:=by
 intro a w hs
 obtain⟨κ,I,hr⟩:=hs
 have g:=hr.slots x
 rw[hx] at g
 have:∃ b n,a.tmps.getD x undef = .slice b 0 n:=by
  generalize a.tmps.getD x undef=v at g
  cases g with
  | im h=>cases h with
   | row0 b n=>exact⟨b,n,rfl⟩
   | row u hn=>subst hn;exact⟨_,_,rfl⟩
 obtain⟨b,n,e⟩:=this
 refine h b n a w ⟨κ,I,hr.size,hr.defers,fun y => ?_,hr.inv.eqv (fun k o hk=>by rwa [AState.obj_put] at hk) rfl⟩
 rw[AState.get_put]
 split
 ·rename_i hxy;subst hxy;rw[e];exact .im (.sc _)
 ·exact hr.slots y
theorem AWp.unsplit {Γ:Ctx} {c:Code} {Q:Exit→AState→Prop} {s:AState} (x:Nat) {b:Option Addr} {n:Nat} (hx:s.get x = .im (.sc (.slice b 0 n))) (h:AWp Γ c Q (s.put (some x) (.im (.row [])))):AWp Γ c Q s:=by
 intro a w hs
 obtain⟨κ,I,hr⟩:=hs
 have g:=hr.slots x
 rw[hx] at g
 have e:=g.sc_inv
 refine h a w ⟨κ,I,hr.size,hr.defers,fun y => ?_,hr.inv.eqv (fun k o hk=>by rwa [AState.obj_put] at hk) rfl⟩
 rw[AState.get_put]
 split
 ·rename_i hxy;subst hxy;rw[e];exact .im (.row0 b n)
 ·exact hr.slots y
theorem OpOK.frozen {P:Program} {o:Oper} {s:AState} {keys news:List Nat} {post:List (Nat×Option MObj)} {k sz el:Nat} {es:List (List Im)} (h:OpOK P o (mkSp s o keys news (.own k) post))
  (hk:look post k=some (some (.row sz el es))):OpOK P o (mkSp s o keys news (.im (.row es)) ((k,none)::post)):=by
 intro Γ hP hd s2 a w hs hn hf K Q hK
 refine h Γ hP hd s2 a w hs hn hf K Q (fun a' w' hs'=>hK a' w' ?_)
 obtain⟨κ,I,hr⟩:=hs'
 have hact:∀ (res:AVal) (post:List (Nat×Option MObj)) (q:Nat),((mkSp s o keys news res post).act o.dst s2).obj q=(s2.objput post).obj q:=fun res post q=>AState.obj_put _ _ _ _
 have hobjk:((mkSp s o keys news (.own k) post).act o.dst s2).obj k=some (.row sz el es):=by
  rw[hact];show(look (post++s2.objs) k).getD none=_
  rw[look_append,hk];rfl
 have hO:=hr.inv.objs k _ hobjk
 let I':Nat→Prop:=fun b=>I b∨∃ ki,κ k=some ki∧ki.b=b
 have hI:∀ b,I b→I' b:=fun b h =>.inl h
 have hold:∀ k' q,((mkSp s o keys news (.im (.row es)) ((k,none)::post)).act o.dst s2).obj k'=some q→k'≠k∧((mkSp s o keys news (.own k) post).act o.dst s2).obj k'=some q:=by
  intro k' q hq
  rw[hact] at hq ⊢
  change (look ((k,none)::(post++s2.objs)) k').getD none=_ at hq
  change _∧(look (post++s2.objs) k').getD none=_
  rw[look_cons] at hq
  by_cases e:k=k'
  ·rw[if_pos e] at hq;simp at hq
  ·rw[if_neg e] at hq;exact⟨fun h=>e h.symm,hq⟩
 have hnot:∀ k' q ki ki',k'≠k→((mkSp s o keys news (.own k) post).act o.dst s2).obj k'=some q→κ k'=some ki'→κ k=some ki→ki'.b≠ki.b:=by
  intro k' q ki ki' hne hq e1 e2 hb
  exact hne (hr.inv.inj k' k q _ ki' ki hq hobjk e1 e2 hb)
 refine⟨κ,I',hr.size,hr.defers,fun x => ?_,?_,?_,?_,?_,hr.inv.keep,fun b h =>.inl (hr.inv.ikeep b h),?_,?_,?_⟩
 ·have g:=hr.slots x
  revert g
  simp only[Sp.act,mkSp]
  cases o.dst with
  | none=>exact fun g=>g.mono hI (fun _ _=>rfl) (fun _ _=>rfl)
  | some d =>
   rw[AState.get_put,AState.get_put]
   by_cases e:d=x
   ·rw[if_pos e,if_pos e]
    intro g
    have:=pass_rep (I':=I') (κc:=κ) (inv:=[]) (views:=[(k,es)]) hI (by intro a b h;simp[look] at h) (fun k' es' h=>by
     rw[look_cons] at h
     split at h
     ·rename_i e';subst e';simp at h;subst h
      exact⟨⟨sz,el,hO⟩,fun ki e =>.inr ⟨ki,e,rfl⟩⟩
     ·simp[look] at h) g
    simpa[pass,look] using this
   ·rw[if_neg e,if_neg e]
    exact fun g=>g.mono hI (fun _ _=>rfl) (fun _ _=>rfl)
 ·intro k' q hq
  obtain⟨hne,hq⟩:=hold k' q hq
  have:=hr.inv.objs k' q hq
  unfold OAt at this ⊢
  cases e:κ k' with
  | none=>rw[e] at this;exact this
  | some ki=>rw[e] at this;exact this.mono hI (fun _ _=>rfl) rfl (fun _ _=>rfl)
 ·intro q1 q2 o1 o2 ki1 ki2 h1 h2 f1 f2 hb
  exact hr.inv.inj q1 q2 o1 o2 ki1 ki2 (hold q1 o1 h1).2 (hold q2 o2 h2).2 f1 f2 hb
 ·intro q o' ki hq f hIb
  obtain⟨hne,hq⟩:=hold q o' hq
  rcases hIb with hIb | ⟨ki',e1,e2⟩
  ·exact hr.inv.disj q o' ki hq f hIb
  ·exact hnot q o' ki' ki hne hq f e1 e2.symm
 ·intro b hIb
  rcases hIb with hIb | ⟨ki,e1,rfl⟩
  ·exact hr.inv.bound b hIb
  ·have:=hO
   simp only[OAt,e1] at this
   obtain⟨_,_,_,arr,h3,_⟩:=this
   exact(Array.getElem?_eq_some_iff.1 h3).1
 ·intro b hIb
  rcases hIb with hIb | ⟨ki,e1,rfl⟩
  ·exact hr.inv.fromI b hIb
  ·rcases hr.inv.fromO k _ ki hobjk e1 with h | h
   ·exact .inr (.inl h)
   ·exact .inr (.inr h)
 ·intro q o' ki hq f
  exact hr.inv.fromO q o' ki (hold q o' hq).2 f
 ·intro q hq
  refine hr.inv.fix q ?_
  have e1:((mkSp s o keys news (.im (.row es)) ((k,none)::post)).act o.dst s2).floor=s2.floor:=by cases o.dst<;>rfl
  have e2:((mkSp s o keys news (.own k) post).act o.dst s2).floor=s2.floor:=by cases o.dst<;>rfl
  rw[e1] at hq;rw[e2];exact hq
def xFz (h:Hint):Ext where
 f P o s:=match autoOp P h o s with
  | some e=>match e.res with
   | .own k=>match look e.post k with
    | some (some (.row sz el es))=>some ⟨e.keys,e.news,.im (.row es),(k,none)::e.post,e.props⟩
    | _=>none
   | _=>none
  | none=>none
 ok P o s e he hp:=by
  split at he
  ·rename_i e0 h0
   split at he
   ·rename_i k hk
    split at he
    ·rename_i sz el es hl
     obtain rfl:=Option.some.inj he
     have:=autoOp_ok h0 hp
     rw[hk] at this
     exact this.frozen hl
    ·simp at he
   ·simp at he
  ·simp at he
end Go.Pv
set_option linter.unusedVariables false
set_option linter.unusedSimpArgs false
namespace Go.Pv
def xMax:Ext where
 f P o s:=match o.op with
  | .call { callee:=.builtin .max,args:=⟨[x,y]⟩,argTypes:=ts }=>match s.eval x,s.eval y with
   | .im (.sc (.int k a)),.im (.sc (.int _ b))=>some ⟨[],[],.im (.sc (.int k (if b>a then b else a))),[],[]⟩
   | _,_=>none
  | _=>none
 ok P o s e he hp:=by
  split at he
  ·rename_i x y ts ho
   split at he
   ·rename_i k a k' b hx hy
    obtain rfl:=Option.some.inj he
    exact ok_pure _ [(x,.int k a),(y,.int k' b)] (by simp[ho,Op.operands,Call.operands,hx,hy]) (fun ρ hρ w=>by
     have h1:=hρ (x,.int k a) (by simp)
     have h2:=hρ (y,.int k' b) (by simp)
     simp only at h1 h2
     simp[execOp,ho,resolve,invoke,builtin,h1,h2,Builtin.max_,Builtin.max2])
   ·simp at he
  ·simp at he
def xMin:Ext where
 f P o s:=match o.op with
  | .call { callee:=.builtin .min,args:=⟨[x,y]⟩,argTypes:=ts }=>match s.eval x,s.eval y with
   | .im (.sc (.int k a)),.im (.sc (.int _ b))=>some ⟨[],[],.im (.sc (.int k (if b<a then b else a))),[],[]⟩
   | _,_=>none
  | _=>none
 ok P o s e he hp:=by
  split at he
  ·rename_i x y ts ho
   split at he
   ·rename_i k a k' b hx hy
    obtain rfl:=Option.some.inj he
    exact ok_pure _ [(x,.int k a),(y,.int k' b)] (by simp[ho,Op.operands,Call.operands,hx,hy]) (fun ρ hρ w=>by
     have h1:=hρ (x,.int k a) (by simp)
     have h2:=hρ (y,.int k' b) (by simp)
     simp only at h1 h2
     simp[execOp,ho,resolve,invoke,builtin,h1,h2,Builtin.min_,Builtin.min2])
   ·simp at he
  ·simp at he
def xFunc:Ext where
 f P o s:=match o.op with
  | .makeFunc (.func g) ⟨[]⟩ caps=>some ⟨[],[],.fn g (caps.toList.map s.eval),[],[]⟩
  | _=>none
 ok P o s e he hp:=by
  split at he
  ·rename_i g caps ho
   obtain rfl:=Option.some.inj he
   refine .quiet rfl fun Γ κ I s2 a w hP hrel hn => ?_
   refine⟨.func (.func g) #[] (caps.toList.map a.eval).toArray,?_,.fn (by simp) (fun j h h' => ?_)⟩
   ·simp[execOp,ho,Instr.makeFunc]
    rw[← Array.toList_inj];simp
   ·rw[List.getElem_map,List.getElem_map]
    exact opd hrel hn _ (by simp[ho,Op.operands]) rfl
  ·simp at he
def bytesOK (xs:List Int):Prop:=∀ x∈xs,0≤x∧x<256
instance (xs:List Int):Decidable (bytesOK xs):=inferInstanceAs (Decidable (∀ x∈xs,0≤x∧x<256))
end Go.Pv
set_option linter.unusedVariables false
set_option linter.unusedSimpArgs false
namespace Go.Pv
def xTake (k2:Nat) (es':List (List Im)):Ext where
 f P o s:=match o.op with
  | .slice t x none hi none=>match elemP P t,s.eval x with
   | some (e,sz),.own k=>match s.obj k with
    | some (.row sz' el es)=>match optN s hi es.length,Nat.beq sz' sz with
     | some u,true=>some ⟨[k],[k2],.own k2,[(k2,some (.row sz el es')),(k,none)],[0≤u,u≤(es.length:Int),es'=es.take u.toNat]⟩
     | _,_=>none
    | _=>none
   | _,_=>none
  | _=>none
 ok P o s e he hp:=by
  split at he
  ·rename_i t x hi ho
   split at he
   ·rename_i e' sz k hel hx
    split at he
    ·rename_i sz' el es hk
     split at he
     ·rename_i u hu hsz
      obtain rfl:=Nat.eq_of_beq_eq_true hsz
      obtain rfl:=Option.some.inj he
      obtain⟨p1,p2,rfl,_⟩:=hp
      obtain⟨hun,ag,hag⟩:=elemP_inv hel
      refine .of fun Γ κ I s2 a w hP hrel hn hf => ?_
      have hfk:=hf k2 (by simp[mkSp])
      obtain⟨m1,m2,m3⟩:=cut_opds (s:=s) ho
      have g1:=opd hrel hn x m1 hx
      have q1:optV ((none:Option Operand).map a.eval) 0 0:=optA_rep hrel hn m2 (show optA s none 0 0 from rfl)
      have q2:=optA_rep hrel hn m3 (optN_A hu)
      have hk2:=(needs_obj hn k (by simp)).trans hk
      have hO:=hrel.inv.objs k _ hk2
      generalize ha:a.eval x=v at g1
      cases g1 with
      | own0 base eκ =>
       simp only[OAt,eκ] at hO
       obtain⟨_,_,e⟩:=hO
       simp at e
       obtain⟨rfl,rfl,rfl⟩:=e
       simp only[List.length_nil] at p2
       have hb:=run_sliceBounds (P:=P) (isSlice:=true) (len:=0) (cap:=0) q1 q2 (Int.le_refl 0) p1 (by omega) w
       have e2:u.toNat=0:=by omega
       have hkill:=hrel.inv.kill [(k,none)] (by intro p hp;simp at hp;subst hp;rfl)
       have hfk':(s2.objput [(k,none)]).fresh k2:=fresh_kill hfk (by intro p hp;simp at hp;subst hp;rfl)
       obtain⟨i1,i2⟩:=hkill.emptyRow (sz:=sz') (el:=el) hfk'
       refine⟨.slice base 0 0,_,w,setK κ k2 none,I,.inl rfl,?_,?_,fun _ h=>h,fun _ _=>rfl,fun x k' hk'=>i2 x k' hk',?_⟩
       ·rw[Option.map_none,e2] at hb
        simp only[Int.toNat_zero] at hb
        simp[execOp,ho,ha,Instr.sliceAt,run_underlying' hun,Instr.slice,hb,run_sizeOf' hag,e2]
        try cases base<;>simp[Addr.add]
       ·rw[e2];exact i1
       ·exact .own0 base (setK_self ..)
      | @own _ ki eκ =>
       simp only[OAt,eκ] at hO
       have hO':=hO
       obtain⟨h1,h2,h3,arr,h4,h5,h6⟩:=hO
       have hb:=run_sliceBounds (P:=P) (isSlice:=true) (len:=ki.len) (cap:=ki.cap) q1 (by rw[h2];exact q2) (Int.le_refl 0) p1 (by omega) w
       let ki':KI:=⟨ki.b,ki.cap,sz',u.toNat⟩
       have hO2:ORep (World.setBlock w ki.b (.cells arr el (0,0))) I (setK κ k2 (some ki')) ki' (.row sz' el (es.take u.toNat)):=by
        rw[setBlock_self h4]
        refine⟨rfl,by simp[ki'];omega,by simp[ki'];omega,arr,h4,h5,fun i hi => ?_⟩
        simp only[List.length_take] at hi
        rw[List.getElem_take]
        exact h6 i (by omega)
       obtain⟨i1,i2,i3⟩:=hrel.inv.move hk2 eκ hfk (ki':=ki') rfl hO2
       rw[setBlock_self h4] at i1 i2
       refine⟨.slice (some ⟨ki.b,0,none⟩) u.toNat ki.cap,_,w,setK κ k2 (some ki'),I,.inl rfl,?_,i1,fun _ h=>h,fun _ _=>rfl,i3,?_⟩
       ·rw[Option.map_none] at hb
        simp only[Int.toNat_zero] at hb
        simp[execOp,ho,ha,Instr.sliceAt,run_underlying' hun,Instr.slice,hb,run_sizeOf' hag]
        try simp[Addr.add]
       ·exact Rep.own (ki:=ki') (setK_self ..)
     ·simp at he
    ·simp at he
   ·simp at he
  ·simp at he
def xCutOwn (lo' n:Nat):Ext where
 f P o s:=match o.op with
  | .slice t x lo none none=>match elemP P t,s.eval x with
   | some (e,sz),.own k=>match s.obj k with
    | some (.row sz' el es)=>match optN s lo 0,Nat.beq sz' sz with
     | some l,true=>some ⟨[k],[],.cut k lo' n,[],[l=(lo':Int),lo'+n=es.length]⟩
     | _,_=>none
    | _=>none
   | _,_=>none
  | _=>none
 ok P o s e he hp:=by
  split at he
  ·rename_i t x lo ho
   split at he
   ·rename_i e' sz k hel hx
    split at he
    ·rename_i sz' el es hk
     split at he
     ·rename_i l hl hsz
      obtain rfl:=Nat.eq_of_beq_eq_true hsz
      obtain rfl:=Option.some.inj he
      obtain⟨rfl,p2,_⟩:=hp
      obtain⟨hun,ag,hag⟩:=elemP_inv hel
      refine .quiet rfl fun Γ κ I s2 a w hP hrel hn => ?_
      obtain⟨m1,m2,m3⟩:=cut_opds (s:=s) ho
      have g1:=opd hrel hn x m1 hx
      have q1:=optA_rep hrel hn m2 (optN_A hl)
      have q2:optV ((none:Option Operand).map a.eval) (es.length:Int) es.length:=optA_rep hrel hn m3 (show optA s none (es.length:Int) es.length from rfl)
      have hO:=hrel.inv.objs k _ ((needs_obj hn k (by simp)).trans hk)
      generalize ha:a.eval x=v at g1
      cases g1 with
      | own0 base eκ =>
       simp only[OAt,eκ] at hO
       obtain⟨_,_,e⟩:=hO
       simp at e
       obtain⟨rfl,rfl,rfl⟩:=e
       simp only[List.length_nil] at p2 q2
       obtain rfl:lo'=0:=by omega
       obtain rfl:n=0:=by omega
       have hb:=run_sliceBounds (P:=P) (isSlice:=true) (len:=0) (cap:=0) q1 q2 (by simp) (by simp) (by simp) w
       refine⟨.slice base 0 0,?_,.cut0 base eκ⟩
       rw[Option.map_none] at hb
       simp at hb
       simp[execOp,ho,ha,Instr.sliceAt,run_underlying' hun,Instr.slice,hb,run_sizeOf' hag]
       try (cases base<;>simp)
      | @own _ ki eκ =>
       simp only[OAt,eκ] at hO
       obtain⟨h1,h2,h3,arr,h4,h5,h6⟩:=hO
       have hb:=run_sliceBounds (P:=P) (isSlice:=true) (len:=ki.len) (cap:=ki.cap) q1 (by rw[h2];exact q2) (by omega) (by omega) (by omega) w
       have hn':es.length-lo'=n:=by omega
       rw[Option.map_none] at hb
       simp only[Int.toNat_natCast] at hb
       by_cases hc:ki.cap=lo'
       ·refine⟨.slice (some ⟨ki.b,0,none⟩) n (ki.cap-lo'),?_,.cut (off:=0) eκ (.inr hc.symm) (by omega)⟩
        rw[hc] at hb
        simp[execOp,ho,ha,Instr.sliceAt,run_underlying' hun,Instr.slice,hb,run_sizeOf' hag,hc,hn']
       ·refine⟨.slice (some ⟨ki.b,lo'*sz',none⟩) n (ki.cap-lo'),?_,.cut (off:=lo'*sz') eκ (.inl (by rw[h1])) (by omega)⟩
        simp[execOp,ho,ha,Instr.sliceAt,run_underlying' hun,Instr.slice,hb,run_sizeOf' hag,hc,hn',addr_add]
     ·simp at he
    ·simp at he
   ·simp at he
  ·simp at he
end Go.Pv
set_option linter.unusedVariables false
set_option linter.unusedSimpArgs false
namespace Go.Pv
theorem zeroCells_get {z:Array Value} {n i j:Nat} (hi:i<n) (hj:j<z.size):(Builtin.zeroCells z n).toList[i*z.size+j]? = z[j]? := by
 have hlt:i*z.size+j<n*z.size:=idx_lt hi hj
 have hm:(i*z.size+j) % z.size=j:=by rw[Nat.mul_comm,Nat.mul_add_mod,Nat.mod_eq_of_lt hj]
 simp only[Builtin.zeroCells,Array.toList_map,List.getElem?_map,Array.getElem?_toList]
 simp[hlt,hm,hj]
def xClear (es':List (List Im)):Ext where
 f P o s:=match o.op with
  | .call { callee:=.builtin .clear,args:=⟨[x]⟩,argTypes:=ts }=>match ts[0]? with
   | some t=>match elemP P t,s.eval x with
    | some (e,sz),.cut k lo n=>match s.obj k,zeroA P e with
     | some (.row sz' el es),some z=>match toImL (valCells z) with
      | some zs=>match Nat.beq sz' sz&&Nat.beq zs.length sz&&leaves (valCells z)&&Nat.blt 0 sz with
       | true=>some ⟨[k],[],.top,[(k,some (.row sz' el es'))],[es'=es.take lo++List.replicate n zs,lo+n=es.length]⟩
       | false=>none
      | none=>none
     | _,_=>none
    | _,_=>none
   | none=>none
  | _=>none
 ok P o s e he hp:=by
  split at he
  ·rename_i x ts ho
   split at he
   ·rename_i t hts
    split at he
    ·rename_i el0 sz k lo n hel hx
     split at he
     ·rename_i sz' el es z hk hz
      split at he
      ·rename_i zs hzs
       split at he
       ·rename_i hb
        simp only[Bool.and_eq_true,Nat.blt_eq] at hb
        obtain⟨⟨⟨b1,b2⟩,b3⟩,b4⟩:=hb
        obtain rfl:=Nat.eq_of_beq_eq_true b1
        have b2:=Nat.eq_of_beq_eq_true b2
        obtain rfl:=Option.some.inj he
        obtain⟨rfl,p2,_⟩:=hp
        obtain⟨hun,ag,hag⟩:=elemP_inv hel
        obtain⟨i0,zv,hinfo,hzero,hzc⟩:∃ i zv,P.info? el0=some i∧i.zero=some zv∧z=constA zv:=by
         unfold zeroA at hz
         cases hi:P.info? el0 with
         | none=>rw[hi] at hz;simp at hz
         | some i =>
          cases hzz:i.zero with
          | none=>rw[hi] at hz;simp[hzz] at hz
          | some zv=>rw[hi] at hz;simp[hzz] at hz;exact⟨i,zv,rfl,hzz,hz.symm⟩
        subst hzc
        obtain⟨t1,t2⟩:=toImL_get hzs
        refine .of fun Γ κ I s2 a w hP hrel hn hf => ?_
        have g1:=opd hrel hn x (by simp[ho,Op.operands,Call.operands]) hx
        have hk2:=(needs_obj hn k (by simp)).trans hk
        have hO:=hrel.inv.objs k _ hk2
        have same:es.take lo++List.replicate n zs=es→Inv Γ κ I (s2.objput [(k,some (.row sz' el (es.take lo++List.replicate n zs)))]) w:=by
         intro e
         rw[e]
         refine hrel.inv.eqv (fun k' o' h => ?_) rfl
         rw[AState.obj_objput,look_cons] at h
         by_cases ek:k=k'
         ·subst ek;rw[if_pos rfl] at h;simp at h;rw[← h];exact hk2
         ·rw[if_neg ek] at h;simpa[look] using h
        generalize ha:a.eval x=v at g1
        cases g1 with
        | cut0 base eκ =>
         simp only[OAt,eκ] at hO
         obtain⟨_,_,e⟩:=hO
         simp at e
         obtain⟨rfl,rfl,rfl⟩:=e
         refine⟨.tuple #[],_,w,κ,I,.inl rfl,?_,same (by simp),fun _ h=>h,fun _ _=>rfl,fun _ _ _=>rfl,.top _⟩
         simp only[execOp,ho,resolve,Deferred.ofValue,Sem.run_bind,Sem.run_pure,Result.andThen_ok,invoke,builtin]
         cases base<;>simp[ha,Builtin.clear_,hts,run_underlying' hun]
        | @cut _ _ _ off ki eκ h1 h2 =>
         simp only[OAt,eκ] at hO
         obtain⟨c1,c2,c3,arr,c4,c5,c6⟩:=hO
         by_cases hn0:n=0
         ·subst hn0
          refine⟨.tuple #[],_,w,κ,I,.inl rfl,?_,same (by rw[List.take_of_length_le (by omega)];simp),fun _ h=>h,fun _ _=>rfl,fun _ _ _=>rfl,.top _⟩
          simp[execOp,ho,resolve,invoke,builtin,ha,Builtin.clear_,hts,run_underlying' hun]
         have hoff:off=lo*sz':=by
          rcases h1 with h1 | h1
          ·rw[h1,c1]
          ·exfalso;exact hn0 (by omega)
         subst hoff
         obtain⟨v1,v2,v3⟩:=valCells_rep (constA_rep w I κ zv) b3
         have hzsz:zv.cells.size=sz':=by rw[v1,← t1,b2]
         let vs:=(Builtin.zeroCells zv.cells n).toList
         have hvl:vs.length=n*sz':=by simp[vs,zeroCells_size,hzsz]
         have hleaf:∀ u∈vs,leafV u=true:=by
          intro u hu
          obtain⟨q,hq,rfl⟩:=List.mem_iff_getElem.1 hu
          rw[hvl] at hq
          have hm:q % sz'<sz':=Nat.mod_lt _ b4
          have hd:q / sz'<n:=Nat.div_lt_of_lt_mul (by rw[Nat.mul_comm];exact hq)
          have hg:=zeroCells_get (z:=zv.cells) (n:=n) (i:=q / sz') (j:=q % sz') hd (by rw[hzsz];exact hm)
          rw[hzsz,Nat.div_add_mod' q sz'] at hg
          have hq2:vs[q]? = some vs[q]:=List.getElem?_eq_getElem (by rw[hvl];exact hq)
          have:zv.cells[q % sz']? = some vs[q]:=by rw[← hg];exact hq2
          exact v3 _ (Array.mem_toList_iff.2 (Array.mem_of_getElem? this))
         have hbound:lo*sz'+vs.length≤arr.size:=by
          rw[hvl,c5,← Nat.add_mul];exact Nat.mul_le_mul_right _ h2
         let ob:Obj:=.cells (setMany arr (lo*sz') vs) el (0,0)
         have hb:ki.b<w.heap.size:=(Array.getElem?_eq_some_iff.1 c4).1
         have hne:∀ b,I b→(World.setBlock w ki.b ob).heap[b]? = w.heap[b]? := fun b hb'=>by
          rw[setBlock_get _ _ _ _ hb,if_neg]
          rintro rfl
          exact hrel.inv.disj k _ ki hk2 eκ hb'
         have hrun:(Builtin.clear_ ts o.type #[.slice (some ⟨ki.b,lo*sz',none⟩) n (ki.cap-lo)]).run P w = .ok (.tuple #[]) (World.setBlock w ki.b ob):=by
          have hst:=run_storeCells0 (P:=P) (b:=ki.b) (el:=el) vs w arr (lo*sz') c4 hbound hleaf
          obtain⟨m,rfl⟩:∃ m,n=m+1:=⟨n-1,by omega⟩
          have hz':(zeroValue el0).run P w = .ok zv w:=by simp[zeroValue,run_typeInfo' hinfo,hzero]
          simp only[Builtin.clear_,hts]
          simp[run_underlying' hun,hz',ob,vs] at hst ⊢
          rw[hst];rfl
         have hO:ORep (World.setBlock w ki.b ob) I κ ki (.row sz' el (es.take lo++List.replicate n zs)):=by
          refine⟨c1,by simp;omega,by simp;omega,setMany arr (lo*sz') vs,by rw[setBlock_get _ _ _ _ hb,if_pos rfl],by rw[setMany_size];exact c5,fun i hi => ?_⟩
          simp only[List.length_append,List.length_take,List.length_replicate] at hi
          by_cases hlt:i<lo
          ·rw[List.getElem_append_left (by simp;omega),List.getElem_take]
           obtain⟨q1,q2⟩:=c6 i (by omega)
           refine⟨q1,fun j hj => ?_⟩
           obtain⟨u,u1,u2⟩:=q2 j hj
           refine⟨u,?_,u2.mono (fun _ h=>h) hne⟩
           rw[setMany_get _ _ _ _ hbound,if_neg]
           ·exact u1
           ·have:=idx_lt hlt (show j<sz' by omega);omega
          ·rw[List.getElem_append_right (by simp;omega),List.getElem_replicate]
           refine⟨b2,fun j hj => ?_⟩
           rw[b2] at hj
           obtain⟨u,u1,u2⟩:=v2 j (by omega)
           refine⟨u,?_,(toIm_rep u2 (t2 j (by omega) (by omega))).mono (fun _ h=>h) hne⟩
           have hil:i-lo<n:=by omega
           have e1:i*sz'+j-lo*sz'=(i-lo)*sz'+j:=by
            rw[Nat.sub_mul]
            have:=Nat.mul_le_mul_right sz' (show lo≤i by omega)
            omega
           have e2:=idx_lt hil hj
           have e3:=Nat.mul_le_mul_right sz' (show lo≤i by omega)
           rw[setMany_get _ _ _ _ hbound,if_pos (by rw[hvl];omega),e1]
           have hg:=zeroCells_get (z:=zv.cells) (n:=n) (i:=i-lo) (j:=j) hil (by rw[hzsz];exact hj)
           rw[hzsz] at hg
           show vs[(i-lo)*sz'+j]? = some u
           rw[hg];exact u1
         obtain⟨f1,f2⟩:=hrel.inv.update hk2 eκ hO
         refine⟨.tuple #[],_,_,κ,I,.inl rfl,?_,f1,fun _ h=>h,f2,fun _ _ _=>rfl,.top _⟩
         simp only[execOp,ho,resolve,Deferred.ofValue,Sem.run_bind,Sem.run_pure,Result.andThen_ok,invoke,builtin]
         simp[ha,hrun]
       ·simp at he
      ·simp at he
     ·simp at he
    ·simp at he
   ·simp at he
  ·simp at he
end Go.Pv
