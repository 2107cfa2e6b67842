import Derived.Laws.MakeOwn
import Derived.Lib.Builder
import Derived.Lib.UnsafeStr
import Derived.Test.YtlclecehlekjoaaPxChunkTurns02
set_option linter.unusedVariables false
set_option linter.unusedSimpArgs false
namespace Go.Pv
theorem run_eql_slice {P:Program} {t e:TypeId} (ht:P.underlying t=some (.slice e)) (b:Option Addr) (n c n' c':Nat) (w:World) :
  (binOp .eql t (.slice b n c) (.slice none n' c')).run P w = .ok (.bool b.isNone) w:=by
 have h:(Op.equal t (.slice b n c) (.slice none n' c')).run P w = .ok b.isNone w:=by
  unfold Op.equal Op.maxDepth
  rw[Op.equalIn]
  cases b<;>simp only[Sem.run_bind,Zq ht,Result.andThen_ok,Sem.run_pure]<;>rfl
 show(do pure (.bool (← Op.equal t (.slice b n c) (.slice none n' c'))):Sem Value).run P w=_
 rw[Sem.run_bind,h];rfl
def nilA:AVal→Option Bool
 | .im (.row (_::_))=>some false
 | .im (.sc (.slice (some _) _ _))=>some false
 | .im (.sc (.slice none _ _))=>some true
 | _=>none
theorem nilA_rep {w:World} {I:Nat→Prop} {κ:Nat→Option KI} {x:AVal} {v:Value} {r:Bool} (h:nilA x=some r) (hr:Rep w I κ x v):∃ b n c,v = .slice b n c∧b.isNone=r:=by
 unfold nilA at h
 split at h
 ·obtain rfl:=Option.some.inj h
  cases hr with
  | im h=>cases h with
   | row u hn=>exact⟨_,_,_,rfl,rfl⟩
 ·obtain rfl:=Option.some.inj h;exact⟨_,_,_,hr.sc_inv,rfl⟩
 ·obtain rfl:=Option.some.inj h;exact⟨_,_,_,hr.sc_inv,rfl⟩
 ·simp at h
def xNil:Ext where
 f P o s:=match o.op with
  | .binOp .eql t x (.const (.slice none _ _)) _=>match P.underlying t,nilA (s.eval x) with
   | some (.slice _),some r=>some ⟨[],[],.im (.sc (.bool r)),[],[]⟩
   | _,_=>none
  | _=>none
 ok P o s e he hp:=by
  split at he
  ·rename_i t x n' c' _ ho
   split at he
   ·rename_i el r ht hr
    obtain rfl:=Option.some.inj he
    refine .quiet rfl fun Γ κ I s2 a w hP hrel hn => ?_
    have g:=opd hrel hn x (by simp[ho,Op.operands]) rfl
    obtain⟨b,n,c,e,rfl⟩:=nilA_rep hr g
    refine⟨.bool b.isNone,?_,.im (.sc _)⟩
    have hc:a.eval (.const (.slice none n' c')) = .slice none n' c':=rfl
    simp only[execOp,ho,e,hc,eqGuard]
    simp[run_eql_slice ht]
   ·simp at he
  ·simp at he
theorem AWp.nilSplit {Γ:Ctx} {c:Code} {Q:Exit→Z6→Prop} {s:Z6} (x:Nat) (hx:s.get x = .im (.row [])) (h:∀ b n,AWp Γ c Q (s.put (some x) (.im (.sc (.slice b 0 n))))):AWp Γ c Q s:=by
 intro a w hs
 obtain⟨κ,I,hr⟩:=hs
 have g:=hr.slots x
 rw[hx] at g
 have:∃ b n,a.tmps.getD x undef = .slice b 0 n:=by
  generalize a.tmps.getD x undef=v at g
  cases g with
  | im h=>cases h with
   | row0 b n=>exact⟨b,n,rfl⟩
   | row u hn=>subst hn;exact⟨_,_,rfl⟩
 obtain⟨b,n,e⟩:=this
 refine h b n a w ⟨κ,I,hr.size,hr.defers,fun y => ?_,hr.inv.eqv (fun k o hk=>by rwa [Z6.obj_put] at hk) rfl⟩
 rw[Z6.get_put]
 split
 ·rename_i hxy;subst hxy;rw[e];exact .im (.sc _)
 ·exact hr.slots y
theorem AWp.unsplit {Γ:Ctx} {c:Code} {Q:Exit→Z6→Prop} {s:Z6} (x:Nat) {b:Option Addr} {n:Nat} (hx:s.get x = .im (.sc (.slice b 0 n))) (h:AWp Γ c Q (s.put (some x) (.im (.row [])))):AWp Γ c Q s:=by
 intro a w hs
 obtain⟨κ,I,hr⟩:=hs
 have g:=hr.slots x
 rw[hx] at g
 have e:=g.sc_inv
 refine h a w ⟨κ,I,hr.size,hr.defers,fun y => ?_,hr.inv.eqv (fun k o hk=>by rwa [Z6.obj_put] at hk) rfl⟩
 rw[Z6.get_put]
 split
 ·rename_i hxy;subst hxy;rw[e];exact .im (.row0 b n)
 ·exact hr.slots y
theorem OpOK.frozen {P:Program} {o:Oper} {s:Z6} {keys news:List Nat} {post:List (Nat×Option MObj)} {k sz el:Nat} {es:List (List Im)} (h:OpOK P o (mkSp s o keys news (.own k) post))
  (hk:look post k=some (some (.row sz el es))):OpOK P o (mkSp s o keys news (.im (.row es)) ((k,none)::post)):=by
 intro Γ hP hd s2 a w hs hn hf K Q hK
 refine h Γ hP hd s2 a w hs hn hf K Q (fun a' w' hs'=>hK a' w' ?_)
 obtain⟨κ,I,hr⟩:=hs'
 have hact:∀ (res:AVal) (post:List (Nat×Option MObj)) (q:Nat),((mkSp s o keys news res post).act o.dst s2).obj q=(s2.objput post).obj q:=fun res post q=>Z6.obj_put _ _ _ _
 have hobjk:((mkSp s o keys news (.own k) post).act o.dst s2).obj k=some (.row sz el es):=by
  rw[hact];show(look (post++s2.objs) k).getD none=_
  rw[Z4g,hk];rfl
 have hO:=hr.inv.objs k _ hobjk
 let I':Nat→Prop:=fun b=>I b∨∃ ki,κ k=some ki∧ki.b=b
 have hI:∀ b,I b→I' b:=fun b h =>.inl h
 have hold:∀ k' q,((mkSp s o keys news (.im (.row es)) ((k,none)::post)).act o.dst s2).obj k'=some q→k'≠k∧((mkSp s o keys news (.own k) post).act o.dst s2).obj k'=some q:=by
  intro k' q hq
  rw[hact] at hq ⊢
  change (look ((k,none)::(post++s2.objs)) k').getD none=_ at hq
  change _∧(look (post++s2.objs) k').getD none=_
  rw[Z1k] at hq
  by_cases e:k=k'
  ·rw[if_pos e] at hq;simp at hq
  ·rw[if_neg e] at hq;exact⟨fun h=>e h.symm,hq⟩
 have hnot:∀ k' q ki ki',k'≠k→((mkSp s o keys news (.own k) post).act o.dst s2).obj k'=some q→κ k'=some ki'→κ k=some ki→ki'.b≠ki.b:=by
  intro k' q ki ki' hne hq e1 e2 hb
  exact hne (hr.inv.inj k' k q _ ki' ki hq hobjk e1 e2 hb)
 refine⟨κ,I',hr.size,hr.defers,fun x => ?_,?_,?_,?_,?_,hr.inv.keep,fun b h =>.inl (hr.inv.ikeep b h),?_,?_,?_⟩
 ·have g:=hr.slots x
  revert g
  simp only[Sp.act,mkSp]
  cases o.dst with
  | none=>exact fun g=>g.mono hI (fun _ _=>rfl) (fun _ _=>rfl)
  | some d =>
   rw[Z6.get_put,Z6.get_put]
   by_cases e:d=x
   ·rw[if_pos e,if_pos e]
    intro g
    have:=Z25 (I':=I') (κc:=κ) (inv:=[]) (views:=[(k,es)]) hI (by intro a b h;simp[look] at h) (fun k' es' h=>by
     rw[Z1k] at h
     split at h
     ·rename_i e';subst e';simp at h;subst h
      exact⟨⟨sz,el,hO⟩,fun ki e =>.inr ⟨ki,e,rfl⟩⟩
     ·simp[look] at h) g
    simpa[pass,look] using this
   ·rw[if_neg e,if_neg e]
    exact fun g=>g.mono hI (fun _ _=>rfl) (fun _ _=>rfl)
 ·intro k' q hq
  obtain⟨hne,hq⟩:=hold k' q hq
  have:=hr.inv.objs k' q hq
  unfold OAt at this ⊢
  cases e:κ k' with
  | none=>rw[e] at this;exact this
  | some ki=>rw[e] at this;exact this.mono hI (fun _ _=>rfl) rfl (fun _ _=>rfl)
 ·intro q1 q2 o1 o2 ki1 ki2 h1 h2 f1 f2 hb
  exact hr.inv.inj q1 q2 o1 o2 ki1 ki2 (hold q1 o1 h1).2 (hold q2 o2 h2).2 f1 f2 hb
 ·intro q o' ki hq f hIb
  obtain⟨hne,hq⟩:=hold q o' hq
  rcases hIb with hIb | ⟨ki',e1,e2⟩
  ·exact hr.inv.disj q o' ki hq f hIb
  ·exact hnot q o' ki' ki hne hq f e1 e2.symm
 ·intro b hIb
  rcases hIb with hIb | ⟨ki,e1,rfl⟩
  ·exact hr.inv.bound b hIb
  ·have:=hO
   simp only[OAt,e1] at this
   obtain⟨_,_,_,arr,h3,_⟩:=this
   exact(Array.getElem?_eq_some_iff.1 h3).1
 ·intro b hIb
  rcases hIb with hIb | ⟨ki,e1,rfl⟩
  ·exact hr.inv.fromI b hIb
  ·rcases hr.inv.fromO k _ ki hobjk e1 with h | h
   ·exact .inr (.inl h)
   ·exact .inr (.inr h)
 ·intro q o' ki hq f
  exact hr.inv.fromO q o' ki (hold q o' hq).2 f
 ·intro q hq
  refine hr.inv.fix q ?_
  have e1:((mkSp s o keys news (.im (.row es)) ((k,none)::post)).act o.dst s2).floor=s2.floor:=by cases o.dst<;>rfl
  have e2:((mkSp s o keys news (.own k) post).act o.dst s2).floor=s2.floor:=by cases o.dst<;>rfl
  rw[e1] at hq;rw[e2];exact hq
def xFz (h:Hint):Ext where
 f P o s:=match autoOp P h o s with
  | some e=>match e.res with
   | .own k=>match look e.post k with
    | some (some (.row sz el es))=>some ⟨e.keys,e.news,.im (.row es),(k,none)::e.post,e.props⟩
    | _=>none
   | _=>none
  | none=>none
 ok P o s e he hp:=by
  split at he
  ·rename_i e0 h0
   split at he
   ·rename_i k hk
    split at he
    ·rename_i sz el es hl
     obtain rfl:=Option.some.inj he
     have:=autoOp_ok h0 hp
     rw[hk] at this
     exact this.frozen hl
    ·simp at he
   ·simp at he
  ·simp at he
end Go.Pv
set_option linter.unusedVariables false
set_option linter.unusedSimpArgs false
namespace Go.Pv
def xMax:Ext where
 f P o s:=match o.op with
  | .call { callee:=.builtin .max,args:=⟨[x,y]⟩,argTypes:=ts }=>match s.eval x,s.eval y with
   | .im (.sc (.int k a)),.im (.sc (.int _ b))=>some ⟨[],[],.im (.sc (.int k (if b>a then b else a))),[],[]⟩
   | _,_=>none
  | _=>none
 ok P o s e he hp:=by
  split at he
  ·rename_i x y ts ho
   split at he
   ·rename_i k a k' b hx hy
    obtain rfl:=Option.some.inj he
    exact ok_pure _ [(x,.int k a),(y,.int k' b)] (by simp[ho,Op.operands,Call.operands,hx,hy]) (fun ρ hρ w=>by
     have h1:=hρ (x,.int k a) (by simp)
     have h2:=hρ (y,.int k' b) (by simp)
     simp only at h1 h2
     simp[execOp,ho,resolve,invoke,builtin,h1,h2,Builtin.max_,Builtin.max2])
   ·simp at he
  ·simp at he
def xMin:Ext where
 f P o s:=match o.op with
  | .call { callee:=.builtin .min,args:=⟨[x,y]⟩,argTypes:=ts }=>match s.eval x,s.eval y with
   | .im (.sc (.int k a)),.im (.sc (.int _ b))=>some ⟨[],[],.im (.sc (.int k (if b<a then b else a))),[],[]⟩
   | _,_=>none
  | _=>none
 ok P o s e he hp:=by
  split at he
  ·rename_i x y ts ho
   split at he
   ·rename_i k a k' b hx hy
    obtain rfl:=Option.some.inj he
    exact ok_pure _ [(x,.int k a),(y,.int k' b)] (by simp[ho,Op.operands,Call.operands,hx,hy]) (fun ρ hρ w=>by
     have h1:=hρ (x,.int k a) (by simp)
     have h2:=hρ (y,.int k' b) (by simp)
     simp only at h1 h2
     simp[execOp,ho,resolve,invoke,builtin,h1,h2,Builtin.min_,Builtin.min2])
   ·simp at he
  ·simp at he
def xFunc:Ext where
 f P o s:=match o.op with
  | .makeFunc (.func g) ⟨[]⟩ caps=>some ⟨[],[],.fn g (caps.toList.map s.eval),[],[]⟩
  | _=>none
 ok P o s e he hp:=by
  split at he
  ·rename_i g caps ho
   obtain rfl:=Option.some.inj he
   refine .quiet rfl fun Γ κ I s2 a w hP hrel hn => ?_
   refine⟨.func (.func g) #[] (caps.toList.map a.eval).toArray,?_,.fn (by simp) (fun j h h' => ?_)⟩
   ·simp[execOp,ho,Instr.makeFunc]
    rw[← Array.toList_inj];simp
   ·rw[List.getElem_map,List.getElem_map]
    exact opd hrel hn _ (by simp[ho,Op.operands]) rfl
  ·simp at he
def bytesOK (xs:List Int):Prop:=∀ x∈xs,0≤x∧x<256
instance (xs:List Int):Decidable (bytesOK xs):=inferInstanceAs (Decidable (∀ x∈xs,0≤x∧x<256))
def toB (xs:List Int):List UInt8:=xs.map fun x=>UInt8.ofNat x.toNat
theorem strOf_eq (xs:List Int):Z8i xs=⟨(toB xs).toArray⟩:=by
 have key:∀ (xs:List Int) (r:ByteArray),xs.foldl (fun r n=>r.push (UInt8.ofNat n.toNat)) r=⟨(r.data.toList++toB xs).toArray⟩:=by
  intro xs
  induction xs with
  | nil=>intro r;simp[toB]
  | cons x xs ih =>
   intro r
   rw[List.foldl_cons,ih]
   simp[toB,ByteArray.push]
 rw[Z8i,key]
 rfl
end Go.Pv
set_option linter.unusedVariables false
set_option linter.unusedSimpArgs false
namespace Go.Pv
def xSub (lo' n:Nat):Ext where
 f P o s:=match o.op with
  | .slice t x lo hi none=>match Z65   P t,s.eval x with
   | some (e,sz),.own k=>match s.obj k with
    | some (.row sz' el es)=>match optN s lo 0,optN s hi es.length,Nat.beq sz' sz with
     | some l,some u,true=>some ⟨[k],[],.sub k lo' n,[],[l=(lo':Int),u=((lo'+n:Nat):Int),lo'+n≤es.length]⟩
     | _,_,_=>none
    | _=>none
   | _,_=>none
  | _=>none
 ok P o s e he hp:=by
  split at he
  ·rename_i t x lo hi ho
   split at he
   ·rename_i e' sz k hel hx
    split at he
    ·rename_i sz' el es hk
     split at he
     ·rename_i l u hl hu hsz
      obtain rfl:=Nat.eq_of_beq_eq_true hsz
      obtain rfl:=Option.some.inj he
      obtain⟨rfl,rfl,p2,_⟩:=hp
      obtain⟨hun,ag,hag⟩:=Z3p hel
      refine .quiet rfl fun Γ κ I s2 a w hP hrel hn => ?_
      obtain⟨m1,m2,m3⟩:=cut_opds (s:=s) ho
      have g1:=opd hrel hn x m1 hx
      have q1:=Z51 hrel hn m2 (Z8p hl)
      have q2:=Z51 hrel hn m3 (Z8p hu)
      have hO:=hrel.inv.objs k _ ((Z2j hn k (by simp)).trans hk)
      generalize ha:a.eval x=v at g1
      cases g1 with
      | own0 base eκ =>
       simp only[OAt,eκ] at hO
       obtain⟨_,_,e⟩:=hO
       simp at e
       obtain⟨rfl,rfl,rfl⟩:=e
       simp only[List.length_nil] at p2 q2
       obtain rfl:lo'=0:=by omega
       obtain rfl:n=0:=by omega
       have hb:=Z2i (P:=P) (isSlice:=true) (len:=0) (cap:=0) q1 q2 (by simp) (by simp) (by simp) w
       refine⟨.slice base 0 0,?_,.sub0 base eκ⟩
       simp at hb
       simp[execOp,ho,ha,Instr.sliceAt,Zq hun,Instr.slice,hb,Z18 hag]
       try (cases base<;>simp)
      | @own _ ki eκ =>
       simp only[OAt,eκ] at hO
       obtain⟨h1,h2,h3,arr,h4,h5,h6⟩:=hO
       have hb:=Z2i (P:=P) (isSlice:=true) (len:=ki.len) (cap:=ki.cap) q1 (by rw[h2];exact q2) (by omega) (by omega) (by omega) w
       have hn':lo'+n-lo'=n:=by omega
       simp only[Int.toNat_natCast] at hb
       by_cases hc:ki.cap=lo'
       ·refine⟨.slice (some ⟨ki.b,0,none⟩) n (ki.cap-lo'),?_,.sub (off:=0) eκ (.inr hc.symm) (by omega) (by omega)⟩
        rw[hc] at hb
        simp[execOp,ho,ha,Instr.sliceAt,Zq hun,Instr.slice,hb,Z18 hag,hc,hn']
       ·refine⟨.slice (some ⟨ki.b,lo'*sz',none⟩) n (ki.cap-lo'),?_,.sub (off:=lo'*sz') eκ (.inl (by rw[h1])) (by omega) (by omega)⟩
        simp[execOp,ho,ha,Instr.sliceAt,Zq hun,Instr.slice,hb,Z18 hag,hc,hn',Z3h]
     ·simp at he
    ·simp at he
   ·simp at he
  ·simp at he
end Go.Pv
set_option linter.unusedVariables false
set_option linter.unusedSimpArgs false
namespace Go.Pv
def outSc (objs:List (Nat×Option MObj)):List (Nat×Nat)→Option (List Prop)
 | []=>some []
 | (kc,_)::r=>match (⟨[],objs,0⟩:Z6    ).obj kc,outSc objs r with
  | some (.row _ _ es),some l=>some ((∀ c∈es,∀ x∈c,∃ v,x=Im.sc v)::l)
  | none,some l=>some l
  | _,_=>none
theorem outSc_ok {objs:List (Nat×Option MObj)}:∀ {out:List (Nat×Nat)} {l:List Prop},outSc objs out=some l→AllP l→∀ kc k o,(kc,k)∈out→(⟨[],objs,0⟩:Z6).obj kc=some o→ScObj o:=by
 intro out
 induction out with
 | nil=>intro l _ _ kc k o hm;simp at hm
 | cons p r ih =>
  intro l h hp kc k o hm ho
  obtain⟨kp,k'⟩:=p
  simp only[outSc] at h
  split at h
  ·rename_i sz el es l' e1 e2
   obtain rfl:=Option.some.inj h
   simp only[AllP] at hp
   rcases List.mem_cons.1 hm with hm | hm
   ·obtain⟨rfl,rfl⟩:=Prod.mk.inj hm
    rw[e1] at ho
    obtain rfl:=Option.some.inj ho
    exact⟨sz,el,es,rfl,hp.1⟩
   ·exact ih e2 hp.2 kc k o hm ho
  ·rename_i l' e1 e2
   obtain rfl:=Option.some.inj h
   rcases List.mem_cons.1 hm with hm | hm
   ·obtain⟨rfl,rfl⟩:=Prod.mk.inj hm
    rw[e1] at ho;simp at ho
   ·exact ih e2 hp kc k o hm ho
  ·simp at h
def Z4p (inv out:List (Nat×Nat)) (vk:List Nat) (news:List Nat) (floor:Nat) (r:AVal) (objs:List (Nat×Option MObj)):Ext where
 f P o s:=match o.op with
  | .call { callee:=.value fo,args:=as,argTypes:=ts }=>match funOf (s.eval fo) with
   | some (g,caps)=>match Z6c     s vk with
    | some views=>match Z5h    inv out views news floor&&inv.all (fun p=>(s.obj p.1).isSome)&&Z2v   r with
     | true=>match outSc objs out with
      | some l=>some ⟨inv.map (·.1)++views.map (·.1),news,pass out [] r,Z4d     ⟨[],objs,0⟩ out inv (views.map (·.1)) true,
       Enters P g::Fn P g ((as.toList.map s.eval++caps).map (fun x=>rowed (pass inv views x))) (Z64 s inv views) floor (fun r' o'=>r'=r∧o'=objs)::l⟩
      | none=>none
     | false=>none
    | none=>none
   | _=>none
  | _=>none
 ok P o s e he hp:=by
  split at he
  ·rename_i fo as ts ho
   split at he
   ·rename_i g caps hfo
    split at he
    ·rename_i views hv
     split at he
     ·rename_i hb
      split at he
      ·rename_i l hl
       simp only[Bool.and_eq_true] at hb
       obtain⟨⟨b1,b2⟩,b3⟩:=hb
       obtain rfl:=Option.some.inj he
       simp only[AllP] at hp
       exact ok_callG inv out views news floor rowed (fun _ _ _ _ _ h=>rowed_rep h) ho hfo hp.1 rfl (Z6b hv) b2 b1 hp.2.1 true (fun _=>⟨b3,outSc_ok hl hp.2.2⟩)
      ·simp at he
     ·simp at he
    ·simp at he
   ·simp at he
  ·simp at he
theorem Z4y {α:Type} (xs:List α) (f:α→List Im) (h:∀ y,∀ x∈f y,∃ v,x=Im.sc v):∀ c∈xs.map f,∀ x∈c,∃ v,x=Im.sc v:=by
 intro c hc;obtain⟨y,_,rfl⟩:=List.mem_map.1 hc;exact h y
end Go.Pv
set_option linter.unusedVariables false
set_option linter.unusedSimpArgs false
namespace Go.Pv
def xMake (k:Nat) (es':List (List Im)):Ext where
 f P o s:=match o.op with
  | .makeSlice t x y=>match Z65   P t,s.eval x,s.eval y with
   | some (e,sz),.im (.sc (.int _ l)),.im (.sc (.int _ c))=>match Z4w    P e,zeroA P e with
    | some (by_,sz2),some z=>match toImL (Z0m      z) with
     | some zs=>match Nat.beq sz2 sz&&Z12    (Z0m      z) with
      | true=>some ⟨[],[k],.own k,[(k,some (.row sz e es'))],[es'=List.replicate l.toNat zs,0≤l,l≤c,(by_:Int)*c≤281474976710656,c≤9223372036854775807]⟩
      | false=>none
     | none=>none
    | _,_=>none
   | _,_,_=>none
  | _=>none
 ok P o s e he hp:=by
  split at he
  ·rename_i t x y ho
   split at he
   ·rename_i el sz kl l kc c hel hx hy
    split at he
    ·rename_i by_ sz2 z hby hz
     split at he
     ·rename_i zs hzs
      split at he
      ·rename_i hb
       simp only[Bool.and_eq_true] at hb
       obtain⟨b1,b3⟩:=hb
       obtain rfl:=Nat.eq_of_beq_eq_true b1
       obtain rfl:=Option.some.inj he
       obtain⟨rfl,p2,p3,p4,p5,_⟩:=hp
       obtain⟨hun,ag,hag⟩:=Z3p hel
       obtain⟨i0,zv,hinfo,hzero,hbytes,hsize,hzcs⟩:=Z59 hby
       obtain rfl:Z66 zv=z:=by
        unfold zeroA at hz;rw[hinfo] at hz;simp[hzero] at hz;exact hz
       obtain⟨t1,t2⟩:=Z7k hzs
       refine .of fun Γ κ I s2 a w hP hr hn hf => ?_
       have hfk:=hf k (by simp[mkSp])
       have g1:=(opd hr hn x (by simp[ho,Op.operands]) hx).sc_inv
       have g2:=(opd hr hn y (by simp[ho,Op.operands]) hy).sc_inv
       obtain⟨v1,v2,v3⟩:=Z2h (Z57 w I κ zv) b3
       have hzl:zs.length=sz2:=by rw[t1,← v1,hzcs]
       let ki:KI:=⟨w.heap.size,c.toNat,sz2,l.toNat⟩
       let ob:Obj:=.cells (madeCells zv.cells (c.toNat*i0.size)) el
       have hrun:(Instr.makeSlice t (.int kl l) (.int kc c)).run P w = .ok (.slice (some ⟨w.heap.size,0,none⟩) l.toNat c.toNat) (World.alloc' w ob) :=
        run_make w t el i0 zv hun hinfo hzero kl kc l c p2 p3 (by rw[hbytes];exact p4) p5
       have hO:ORep (World.alloc' w ob) I (setK κ k (some ki)) ki (.row sz2 el (List.replicate l.toNat zs)):=by
        refine⟨rfl,by simp[ki],by simp[ki];omega,madeCells zv.cells (c.toNat*i0.size),Z4x _ _,by rw[size_madeCells,hsize],fun i hi => ?_⟩
        simp only[List.length_replicate] at hi
        rw[List.getElem_replicate]
        refine⟨hzl,fun j hj => ?_⟩
        rw[hzl] at hj
        obtain⟨u,u1,u2⟩:=v2 j (by omega)
        refine⟨u,?_,(toIm_rep u2 (t2 j (by omega) (by omega))).mono (fun _ h=>h) (fun b hb=>Z39 _ _ _ (hr.inv.bound b hb))⟩
        have hlt:i*sz2+j<c.toNat*sz2:=Z8u (by omega) hj
        have hm:(i*sz2+j) % sz2=j:=by rw[Nat.mul_comm,Nat.mul_add_mod,Nat.mod_eq_of_lt hj]
        have hcs:j<zv.cells.size:=by omega
        rw[← u1]
        simp only[madeCells,hsize,hzcs]
        simp[hlt,hm,hcs]
       obtain⟨f1,f2,f3⟩:=hr.inv.alloc hfk (ki:=ki) rfl hO
       refine⟨_,_,_,_,I,.inl rfl,?_,f1,fun _ h=>h,f2,f3,.own (ki:=ki) (Z1e ..)⟩
       simp[execOp,ho,g1,g2,hrun,ki]
      ·simp at he
     ·simp at he
    ·simp at he
   ·simp at he
  ·simp at he
end Go.Pv
