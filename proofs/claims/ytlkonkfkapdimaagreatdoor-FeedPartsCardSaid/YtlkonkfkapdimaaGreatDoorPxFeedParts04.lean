import Derived.Deep.Draws
import Derived.Laws.MakeOwn
import Derived.Lib.Builder
import Derived.Lib.ConvBytes
import Derived.Lib.LaidTab
import Derived.Lib.MakeNoZero
import Derived.Lib.UnsafeStr
import Derived.Sort.Grow
import Derived.Test.YtlkonkfkapdimaaGreatDoorPxFeedParts03
set_option linter.unusedVariables false
set_option linter.unusedSimpArgs false
namespace Go.Pv
def xMax:Ext where
 f P o s:=match o.op with
  | .call { callee:=.builtin .max,args:=⟨[x,y]⟩,argTypes:=ts }=>match s.eval x,s.eval y with
   | .im (.sc (.int k a)),.im (.sc (.int _ b))=>some ⟨[],[],.im (.sc (.int k (if b>a then b else a))),[],[]⟩
   | _,_=>none
  | _=>none
 ok P o s e he hp:=by
  split at he
  ·rename_i x y ts ho
   split at he
   ·rename_i k a k' b hx hy
    obtain rfl:=Option.some.inj he;exact ok_pure _ [(x,.int k a),(y,.int k' b)] (by simp[ho,Op.operands,Call.operands,hx,hy]) (fun ρ hρ w=>by
     have h1:=hρ (x,.int k a) (by simp);have h2:=hρ (y,.int k' b) (by simp);simp only at h1 h2;simp[execOp,ho,resolve,invoke,builtin,h1,h2,Builtin.max_,Builtin.max2])
   ·simp at he
  ·simp at he
def xMin:Ext where
 f P o s:=match o.op with
  | .call { callee:=.builtin .min,args:=⟨[x,y]⟩,argTypes:=ts }=>match s.eval x,s.eval y with
   | .im (.sc (.int k a)),.im (.sc (.int _ b))=>some ⟨[],[],.im (.sc (.int k (if b<a then b else a))),[],[]⟩
   | _,_=>none
  | _=>none
 ok P o s e he hp:=by
  split at he
  ·rename_i x y ts ho
   split at he
   ·rename_i k a k' b hx hy
    obtain rfl:=Option.some.inj he;exact ok_pure _ [(x,.int k a),(y,.int k' b)] (by simp[ho,Op.operands,Call.operands,hx,hy]) (fun ρ hρ w=>by
     have h1:=hρ (x,.int k a) (by simp);have h2:=hρ (y,.int k' b) (by simp);simp only at h1 h2;simp[execOp,ho,resolve,invoke,builtin,h1,h2,Builtin.min_,Builtin.min2])
   ·simp at he
  ·simp at he
def ptrEq:AVal→AVal→Option Bool
 | .im (.sc (.pointer none)),.im (.sc (.pointer none))=>some true
 | .ptr ..,.im (.sc (.pointer none))=>some false
 | .ip _,.im (.sc (.pointer none))=>some false
 | .im (.sc (.pointer none)),.ptr .. => some false
 | .im (.sc (.pointer none)),.ip _=>some false
 | .ptr k 0 j,.ptr k' 0 j'=>match Nat.beq k k'&&Nat.beq j j' with
  | true=>some true
  | false=>none
 | _,_=>none
theorem ptrEq_ok {w:World} {I:Nat→Prop} {κ:Nat→Option KI} {x y:AVal} {u v:Value} {r:Bool} (h:ptrEq x y=some r) (hx:Rep w I κ x u) (hy:Rep w I κ y v) :
  (u = .pointer none∧v = .pointer none∧r=true)∨(∃ a,u = .pointer (some a)∧v = .pointer none∧r=false)∨(∃ a,u = .pointer none∧v = .pointer (some a)∧r=false)∨∃ a,u = .pointer (some a)∧v = .pointer (some a)∧r=true:=by
 unfold ptrEq at h;split at h
 ·obtain rfl:=Option.some.inj h;exact .inl ⟨hx.sc_inv,hy.sc_inv,rfl⟩
 ·obtain rfl:=Option.some.inj h;cases hx;exact .inr (.inl ⟨_,rfl,hy.sc_inv,rfl⟩)
 ·obtain rfl:=Option.some.inj h;cases hx;exact .inr (.inl ⟨_,rfl,hy.sc_inv,rfl⟩)
 ·obtain rfl:=Option.some.inj h;cases hy;exact .inr (.inr (.inl ⟨_,hx.sc_inv,rfl,rfl⟩))
 ·obtain rfl:=Option.some.inj h;cases hy;exact .inr (.inr (.inl ⟨_,hx.sc_inv,rfl,rfl⟩))
 ·split at h
  ·rename_i hb
   simp only[Bool.and_eq_true] at hb;obtain⟨h1,h2⟩:=hb;obtain rfl:=Nat.eq_of_beq_eq_true h1;obtain rfl:=Nat.eq_of_beq_eq_true h2;obtain rfl:=Option.some.inj h;cases hx with
   | ptr e1=>cases hy with
    | ptr e2=>rw[e1] at e2;obtain rfl:=Option.some.inj e2;exact .inr (.inr (.inr ⟨_,rfl,rfl,rfl⟩))
  ·simp at h
 ·simp at h
theorem Z3f {P:Program} {t e:TypeId} (ht:P.underlying t=some (.pointer e)) (w:World):(Op.equal t (.pointer none) (.pointer none)).run P w = .ok true w∧(∀ a,(Op.equal t (.pointer (some a)) (.pointer none)).run P w = .ok false w)∧∀ a,(Op.equal t (.pointer none) (.pointer (some a))).run P w = .ok false w:=by
 unfold Op.equal Op.maxDepth;refine⟨?_,fun a => ?_,fun a => ?_⟩<;>rw[Op.equalIn]<;>simp only[Sem.run_bind,Z8 ht,Result.andThen_ok,Sem.run_pure]<;>rfl
theorem Z4p {P:Program} {t:TypeId} {p q:Option Addr} {r:Bool} {w:World} (h:(Op.equal t (.pointer p) (.pointer q)).run P w = .ok r w):(binOp .eql t (.pointer p) (.pointer q)).run P w = .ok (.bool r) w∧(binOp .neq t (.pointer p) (.pointer q)).run P w = .ok (.bool !r) w:=by
 constructor
 ·show(do pure (.bool (← Op.equal t (.pointer p) (.pointer q))):Sem Value).run P w=_
  rw[Sem.run_bind,h];rfl
 ·show(do pure (.bool (!(← Op.equal t (.pointer p) (.pointer q)))):Sem Value).run P w=_
  rw[Sem.run_bind,h];rfl
theorem run_ptrEq {P:Program} {t e:TypeId} {j:TypeInfo} (ht:P.underlying t=some (.pointer e)) (hj:P.info? e=some j) {w:World} {I:Nat→Prop} {κ:Nat→Option KI} {x y:AVal} {u v:Value} {r:Bool} (h:ptrEq x y=some r) (hx:Rep w I κ x u) (hy:Rep w I κ y v) :
  (binOp .eql t u v).run P w = .ok (.bool r) w∧(binOp .neq t u v).run P w = .ok (.bool !r) w∧(∀ op p q,(eqGuard op t p q u v).run P w = .ok () w):=by
 rcases ptrEq_ok h hx hy with ⟨rfl,rfl,rfl⟩ | ⟨a,rfl,rfl,rfl⟩ | ⟨a,rfl,rfl,rfl⟩ | ⟨a,rfl,rfl,rfl⟩
 ·exact⟨(Z4p (Z3f ht w).1).1,(Z4p (Z3f ht w).1).2,fun op p q=>by cases op<;>rfl⟩
 ·exact⟨(Z4p ((Z3f ht w).2.1 a)).1,(Z4p ((Z3f ht w).2.1 a)).2,fun op p q=>by cases op<;>rfl⟩
 ·exact⟨(Z4p ((Z3f ht w).2.2 a)).1,(Z4p ((Z3f ht w).2.2 a)).2,fun op p q=>by cases op<;>rfl⟩
 ·exact⟨run_eql_ptr_same w a ht hj,Lib.run_neq_ptr_same w a ht hj,fun op p q=>by cases op<;>rfl⟩
def xPtrEq (b:Option Bool):Ext where
 f P o s:=match o.op with
  | .binOp op t x y _=>match P.underlying t,ptrEq (s.eval x) (s.eval y) with
   | some (.pointer e),some r=>match P.info? e with
    | some j=>match op with
     | .eql=>some ⟨[],[],.im (.sc (.bool (optB b r).1)),[],(optB b r).2⟩
     | .neq=>some ⟨[],[],.im (.sc (.bool (optB b !r).1)),[],(optB b !r).2⟩
     | _=>none
    | none=>none
   | _,_=>none
  | _=>none
 ok P o s e he hp:=by
  split at he
  ·rename_i op t x y _ ho
   split at he
   ·rename_i el r ht hr
    split at he
    ·rename_i j hj
     split at he
     ·obtain rfl:=Option.some.inj he
      simp only at hp ⊢;rw[optB_eq hp];exact .quiet rfl fun Γ κ I s2 a w hP hrel hn=>by
       obtain⟨g1,g2,g3⟩:=run_ptrEq (P:=P) ht hj hr (opd hrel hn x (by simp[ho,Op.operands]) rfl) (opd hrel hn y (by simp[ho,Op.operands]) rfl);exact⟨.bool r,by simp only[execOp,ho,Sem.run_bind,g3,Result.andThen_ok,g1,Sem.run_pure],.im (.sc _)⟩
     ·obtain rfl:=Option.some.inj he
      simp only at hp ⊢;rw[optB_eq hp];exact .quiet rfl fun Γ κ I s2 a w hP hrel hn=>by
       obtain⟨g1,g2,g3⟩:=run_ptrEq (P:=P) ht hj hr (opd hrel hn x (by simp[ho,Op.operands]) rfl) (opd hrel hn y (by simp[ho,Op.operands]) rfl);exact⟨.bool !r,by simp only[execOp,ho,Sem.run_bind,g3,Result.andThen_ok,g2,Sem.run_pure],.im (.sc _)⟩
     ·simp at he
    ·simp at he
   ·simp at he
  ·simp at he
theorem box_shape {w:World} {I:Nat→Prop} {κ:Nat→Option KI} {k j el:Nat} {cells:List AVal} {v:Value} (h:OAt w I κ k (.box el cells)) (hv:Rep w I κ (.ptr k 0 j) v) :
  ∃ b,v = .pointer (some ⟨b,j,none⟩)∧w.shape? b=some (el,cells.length):=by
 cases hv with
 | @ptr _ _ _ ki e =>
  simp only[OAt,e] at h;obtain⟨h1,h2,arr,h3,h4,_⟩:=h;exact⟨ki.b,by simp,by simp[World.shape?,h3,h4]⟩
def xUnsafe:Ext where
 f P o s:=match o.op with
  | .convert st t x=>match s.eval x with
   | .ptr k 0 j=>match s.obj k with
    | some (.box el cells)=>match P.underlying st,P.underlying t with
     | some (.pointer u),some .unsafePointer=>match P.info? u with
      | some i=>match Nat.blt 0 i.size&&Nat.blt j cells.length with
       | true=>some ⟨[k],[],.ptr k 0 j,[],[]⟩
       | false=>none
      | none=>none
     | some .unsafePointer,some (.pointer u)=>match P.info? u with
      | some i=>match liesAt P P.depth el (cells.length / P.cellsOf el) j u 1 with
       | true=>some ⟨[k],[],.ptr k 0 j,[],[]⟩
       | false=>none
      | none=>none
     | _,_=>none
    | _=>none
   | _=>none
  | _=>none
 ok P o s e he hp:=by
  split at he
  ·rename_i st t x ho
   split at he
   ·rename_i k j hx
    split at he
    ·rename_i el cells hk
     split at he
     ·rename_i u hs ht
      split at he
      ·rename_i i hi
       split at he
       ·rename_i hb
        obtain rfl:=Option.some.inj he;simp only[Bool.and_eq_true,Nat.blt_eq] at hb;refine .quiet rfl fun Γ κ I s2 a w hP hrel hn => ?_;have g:=opd hrel hn x (by simp[ho,Op.operands]) hx;obtain⟨b,e1,e2⟩:=box_shape (hrel.inv.objs k _ ((Z0t hn k (by simp)).trans hk)) g;refine⟨a.eval x,?_,g⟩;rw[e1];simp only[execOp,ho,e1];rw[Sem.run_bind,Lib.run_to_unsafe w ⟨b,j,none⟩ hs ht hi (by omega) e2 hb.2];rfl
       ·simp at he
      ·simp at he
     ·rename_i u hs ht
      split at he
      ·rename_i i hi
       split at he
       ·rename_i hb
        obtain rfl:=Option.some.inj he;refine .quiet rfl fun Γ κ I s2 a w hP hrel hn => ?_;have g:=opd hrel hn x (by simp[ho,Op.operands]) hx;obtain⟨b,e1,e2⟩:=box_shape (hrel.inv.objs k _ ((Z0t hn k (by simp)).trans hk)) g;refine⟨a.eval x,?_,g⟩;rw[e1];simp only[execOp,ho,e1];rw[Sem.run_bind,Lib.run_from_unsafe w ⟨b,j,none⟩ hs ht hi e2 hb];rfl
       ·simp at he
      ·simp at he
     ·simp at he
    ·simp at he
   ·simp at he
  ·simp at he
theorem x_noEscape {P:Program} {g:FuncId} {fn:Func} (hf:P.funcs[g]? = some fn) (hname:(fn.name == "runtime.NumGoroutine")=false) (hb:fn.body.isNone=true) (hn:Extern.findNext fn=none) (he:Extern.find fn=some Extern.AbiNoEscape.same) (v:Value) (w:World) :
  (callFunc g #[v]).run P w = .ok (.value v) w:=by
 rw[run_callFunc_extern hf hname hb hn he,Lib.run_noEscape];rfl
def xSame (g:Nat):Ext where
 f P o s:=match o.op with
  | .call { callee:=.value fo,args:=⟨[x]⟩,argTypes:=ts }=>match s.eval fo with
   | .im (.sc (.func (.func g') ⟨[]⟩ ⟨[]⟩))=>match Nat.beq g g' with
    | true=>some ⟨[],[],s.eval x,[],[∀ v w,(callFunc g #[v]).run P w = .ok (.value v) w]⟩
    | false=>none
   | _=>none
  | _=>none
 ok P o s e he hp:=by
  split at he
  ·rename_i fo x ts ho
   split at he
   ·rename_i g' hfo
    split at he
    ·rename_i hb
     obtain rfl:=Nat.eq_of_beq_eq_true hb;obtain rfl:=Option.some.inj he;refine .quiet rfl fun Γ κ I s2 a w hP hrel hn => ?_;have h1:=(opd hrel hn fo (by simp[ho,Op.operands,Call.operands]) hfo).sc_inv;refine⟨a.eval x,?_,opd hrel hn x (by simp[ho,Op.operands,Call.operands]) rfl⟩;simp only[execOp,ho,resolve,h1,Deferred.ofValue,Sem.run_bind,Sem.run_pure,Result.andThen_ok,invoke];have:=hp.1 (a.eval x) w;simpa using this
    ·simp at he
   ·simp at he
  ·simp at he
def xSliceData:Ext where
 f P o s:=match o.op with
  | .call { callee:=.builtin .unsafeSliceData,args:=⟨[x]⟩,argTypes:=ts }=>match s.eval x with
   | .own k=>match s.obj k with
    | some (.row sz el es)=>some ⟨[k],[],.ptr k 0 0,[],[es≠[]]⟩
    | _=>none
   | _=>none
  | _=>none
 ok P o s e he hp:=by
  split at he
  ·rename_i x ts ho
   split at he
   ·rename_i k hx
    split at he
    ·rename_i sz el es hk
     obtain rfl:=Option.some.inj he;obtain⟨hne,_⟩:=hp;refine .quiet rfl fun Γ κ I s2 a w hP hrel hn => ?_;have g:=opd hrel hn x (by simp[ho,Op.operands,Call.operands]) hx;have hO:=hrel.inv.objs k _ ((Z0t hn k (by simp)).trans hk);generalize ha:a.eval x=v at g;cases g with
     | own0 base e=>simp only[OAt,e] at hO;obtain⟨_,_,e'⟩:=hO;simp at e';exact absurd e'.2.2 hne
     | @own _ ki e =>
      simp only[OAt,e] at hO;obtain⟨h1,h2,h3,_⟩:=hO;have hpos:0<es.length:=by cases es with | nil=>exact absurd rfl hne | cons=>simp
      refine⟨.pointer (some ⟨ki.b,0,none⟩),?_,by have:=Rep.ptr (w:=w) (I:=I) (e:=0) (j:=0) e;show Rep w I κ (.ptr k 0 0) _;simpa using this⟩;have hc:ki.cap≠0:=by omega
      have hdef:∀ ts ty,(Builtin.unsafeSliceData_ ts ty #[.slice (some ⟨ki.b,0,none⟩) ki.len ki.cap]).run P w = .ok (.pointer (some ⟨ki.b,0,none⟩)) w:=fun ts ty=>by
       show(do
        if ki.cap≠0 then pure (.pointer (some ⟨ki.b,0,none⟩))
        else if(← viewAt ki.b).isSome then pure (.pointer (some ⟨ki.b,0,none⟩))
        else pure (.pointer (some ⟨← newObj (.view ⟨ki.b,0,none⟩ (← elemOf ty)),0,none⟩)):Sem Value).run P w=_
       rw[if_pos hc];rfl
      simp[execOp,ho,resolve,invoke,builtin,ha,hdef]
    ·simp at he
   ·simp at he
  ·simp at he
def Z7w (xs:List Int):Prop:=∀ x∈xs,0≤x∧x<256
instance (xs:List Int):Decidable (Z7w xs):=inferInstanceAs (Decidable (∀ x∈xs,0≤x∧x<256))
def toB (xs:List Int):List UInt8:=xs.map fun x=>UInt8.ofNat x.toNat
theorem toB_get {xs:List Int} (h:Z7w xs) {j:Nat} {x:UInt8} (hj:(toB xs)[j]? = some x):xs[j]? = some (x.toNat:Int):=by
 unfold toB at hj;rw[List.getElem?_map] at hj;cases e:xs[j]? with
 | none=>rw[e] at hj;simp at hj
 | some y =>
  rw[e] at hj;simp at hj;subst hj;obtain⟨h0,h1⟩:=h y (List.mem_of_getElem? e);congr 1;simp;omega
theorem strOf_eq (xs:List Int):Z3o xs=⟨(toB xs).toArray⟩:=by
 have key:∀ (xs:List Int) (r:ByteArray),xs.foldl (fun r n=>r.push (UInt8.ofNat n.toNat)) r=⟨(r.data.toList++toB xs).toArray⟩:=by
  intro xs
  induction xs with
  | nil=>intro r;simp[toB]
  | cons x xs ih =>
   intro r;rw[List.foldl_cons,ih];simp[toB,ByteArray.push]
 rw[Z3o,key];rfl
theorem freeze_other {w:World} {b n:Nat}:(∀ c,c≠b→(w.freeze ⟨b,0,none⟩ n).heap[c]? = w.heap[c]?)∧(w.freeze ⟨b,0,none⟩ n).heap.size=w.heap.size∧(w.freeze ⟨b,0,none⟩ n).os=w.os∧(w.freeze ⟨b,0,none⟩ n).tape=w.tape∧(w.freeze ⟨b,0,none⟩ n).output=w.output:=by
 unfold World.freeze;split
 ·exact⟨fun _ _=>rfl,rfl,rfl,rfl,rfl⟩
 ·exact⟨fun c hc=>by simp[Array.getElem?_modify,Ne.symm hc],by simp,rfl,rfl,rfl⟩
theorem Inv.freezeBlock {Γ:Ctx} {κ:Nat→Option KI} {I:Nat→Prop} {s:Z1} {w w':World} {k:Nat} {o:MObj} {ki:KI} (h:Inv Γ κ I s w) (hk:s.obj k=some o) (hκ:κ k=some ki)
  (h1:∀ c,c≠ki.b→w'.heap[c]? = w.heap[c]?) (h2:w'.heap.size=w.heap.size) (h3:w'.os=w.os) (h4:w'.tape=w.tape) (h5:w'.output=w.output) :
  Inv Γ κ I (s.objput [(k,none)]) w'∧∀ b,I b→w'.heap[b]? = w.heap[b]? := by
 have hI:∀ b,I b→w'.heap[b]? = w.heap[b]? := fun b hb=>h1 b (fun e=>by subst e;exact h.disj k o ki hk hκ hb)
 have hold:∀ k' q,(s.objput [(k,none)]).obj k'=some q→k'≠k∧s.obj k'=some q:=by
  intro k' q hq;change (look ((k,none)::s.objs) k').getD none=_ at hq;change _∧(look s.objs k').getD none=_;rw[Z0o] at hq;by_cases e:k=k'
  ·rw[if_pos e] at hq;simp at hq
  ·rw[if_neg e] at hq;exact⟨fun h=>e h.symm,hq⟩
 refine⟨⟨?_,?_,?_,?_,?_,h.ikeep,h.fromI,?_,h.fix⟩,hI⟩
 ·intro k' q hq
  obtain⟨hne,hq⟩:=hold k' q hq;have:=h.objs k' q hq;unfold OAt at this ⊢;cases e:κ k' with
  | none=>rw[e] at this;exact this
  | some ki'=>rw[e] at this;exact this.mono (fun _ h=>h) hI (h1 _ (fun hb=>hne (h.inj k' k q o ki' ki hq hk e hκ hb))) (fun _ _=>rfl)
 ·intro q1 q2 o1 o2 ki1 ki2 g1 g2 f1 f2 hb
  exact h.inj q1 q2 o1 o2 ki1 ki2 (hold q1 o1 g1).2 (hold q2 o2 g2).2 f1 f2 hb
 ·intro q o' ki' hq f hIb
  exact h.disj q o' ki' (hold q o' hq).2 f hIb
 ·intro b hb;rw[h2];exact h.bound b hb
 ·refine⟨h3.trans h.keep.os,h4.trans h.keep.tape,h5.trans h.keep.output,by rw[h2];exact h.keep.size,fun b hb hM => ?_⟩
  rw[h1 b (fun e => ?_)]
  ·exact h.keep.block b hb hM
  ·subst e
   rcases h.fromO k o ki hk hκ with g | g
   ·exact hM g
   ·omega
 ·intro q o' ki' hq f
  exact h.fromO q o' ki' (hold q o' hq).2 f
def xUString (xs:List Int):Ext where
 f P o s:=match o.op with
  | .call { callee:=.builtin .unsafeString,args:=⟨[x,y]⟩,argTypes:=⟨[pt,it]⟩ }=>match P.underlying pt,s.eval x,s.eval y with
   | some (.pointer e),.ptr k 0 0,.im (.sc (.int .i64 n))=>match s.obj k with
    | some (.row sz el es)=>match Nat.beq sz 1&&Nat.beq el e&&Nat.beq (P.cellsOf e) 1 with
     | true=>some ⟨[k],[],.im (.sc (.string (Z3o xs))),[(k,none)],[es=xs.map (Z24 .u8),n=(xs.length:Int),xs≠[]∧xs.length≤9223372036854775807∧Z7w xs]⟩
     | false=>none
    | _=>none
   | _,_,_=>none
  | _=>none
 ok P o s e he hp:=by
  split at he
  ·rename_i x y pt it ho
   split at he
   ·rename_i e k n hpt hx hy
    split at he
    ·rename_i sz el es hk
     split at he
     ·rename_i hb
      simp only[Bool.and_eq_true] at hb;obtain⟨⟨b1,b2⟩,b3⟩:=hb;obtain rfl:=Nat.eq_of_beq_eq_true b1;obtain rfl:=Nat.eq_of_beq_eq_true b2;have hc:=Nat.eq_of_beq_eq_true b3;obtain rfl:=Option.some.inj he;obtain⟨rfl,rfl,⟨hne,hlen,hbytes⟩,_⟩:=hp;refine .of fun Γ κ I s2 a w hP hrel hn hf => ?_;have g:=opd hrel hn x (by simp[ho,Op.operands,Call.operands]) hx;have g2:=(opd hrel hn y (by simp[ho,Op.operands,Call.operands]) hy).sc_inv;have hk2:=(Z0t hn k (by simp)).trans hk;have hO:=hrel.inv.objs k _ hk2;generalize ha:a.eval x=v at g;cases g with
      | @ptr _ _ _ ki e =>
       simp only[OAt,e] at hO;obtain⟨h1,h2,h3,arr,h4,h5,h6⟩:=hO;simp only[List.length_map] at h2 h3 h6;have hl:(toB xs).length=xs.length:=by simp[toB]
       have hrun:=Lib.run_unsafeString_row (P:=P) w pt it o.type el hpt hc ki.b arr.size (by simp[World.shape?,h4]) (toB xs) (by simpa[toB] using hne) (by rw[hl,h5];omega) (by rw[hl];exact hlen) (fun j x hj=>by
        have hx:=toB_get hbytes hj;obtain⟨hjl,hxe⟩:=List.getElem?_eq_some_iff.1 hx;obtain⟨q1,q2⟩:=h6 j hjl;obtain⟨u,u1,u2⟩:=q2 0 (by simp);simp only[List.getElem_map,Z24,List.getElem_cons_zero] at u2;rw[hxe] at u2;cases u2;rw[show(⟨ki.b,0,none⟩:Addr).add j=⟨ki.b,j,none⟩ from by rw[Z2o,Nat.zero_add],Z4n h4];simpa using u1)
       obtain⟨f1,f2,f3,f4,f5⟩:=freeze_other (w:=w) (b:=ki.b) (n:=(toB xs).length);obtain⟨i1,i2⟩:=hrel.inv.freezeBlock hk2 e f1 f2 f3 f4 f5;refine⟨.string (Z3o xs),_,w.freeze ⟨ki.b,0,none⟩ (toB xs).length,κ,I,.inl rfl,?_,i1,fun _ h=>h,i2,fun _ _ _=>rfl,.im (.sc _)⟩;rw[hl] at hrun;simp only[execOp,ho,resolve,invoke,builtin];simp[ha,g2,hrun,strOf_eq,hl]
     ·simp at he
    ·simp at he
   ·simp at he
  ·simp at he
def xTake (k2:Nat) (es':List (List Im)):Ext where
 f P o s:=match o.op with
  | .slice t x none hi none=>match Z4b   P t,s.eval x with
   | some (e,sz),.own k=>match s.obj k with
    | some (.row sz' el es)=>match optN s hi es.length,Nat.beq sz' sz with
     | some u,true=>some ⟨[k],[k2],.own k2,[(k2,some (.row sz el es')),(k,none)],[0≤u,u≤(es.length:Int),es'=es.take u.toNat]⟩
     | _,_=>none
    | _=>none
   | _,_=>none
  | _=>none
 ok P o s e he hp:=by
  split at he
  ·rename_i t x hi ho
   split at he
   ·rename_i e' sz k hel hx
    split at he
    ·rename_i sz' el es hk
     split at he
     ·rename_i u hu hsz
      obtain rfl:=Nat.eq_of_beq_eq_true hsz;obtain rfl:=Option.some.inj he;obtain⟨p1,p2,rfl,_⟩:=hp;obtain⟨hun,ag,hag⟩:=Z2g hel;refine .of fun Γ κ I s2 a w hP hrel hn hf => ?_;have hfk:=hf k2 (by simp[mkSp]);obtain⟨m1,m2,m3⟩:=Z5p (s:=s) ho;have g1:=opd hrel hn x m1 hx;have q1:optV ((none:Option Operand).map a.eval) 0 0:=Z32 hrel hn m2 (show optA s none 0 0 from rfl);have q2:=Z32 hrel hn m3 (Z6h hu);have hk2:=(Z0t hn k (by simp)).trans hk;have hO:=hrel.inv.objs k _ hk2;generalize ha:a.eval x=v at g1;cases g1 with
      | own0 base eκ =>
       simp only[OAt,eκ] at hO;obtain⟨_,_,e⟩:=hO;simp at e;obtain⟨rfl,rfl,rfl⟩:=e;simp only[List.length_nil] at p2;have hb:=Z0s (P:=P) (isSlice:=true) (len:=0) (cap:=0) q1 q2 (Int.le_refl 0) p1 (by omega) w;have e2:u.toNat=0:=by omega
       have hkill:=hrel.inv.kill [(k,none)] (by intro p hp;simp at hp;subst hp;rfl);have hfk':(s2.objput [(k,none)]).fresh k2:=Z8i hfk (by intro p hp;simp at hp;subst hp;rfl);obtain⟨i1,i2⟩:=hkill.emptyRow (sz:=sz') (el:=el) hfk';refine⟨.slice base 0 0,_,w,setK κ k2 none,I,.inl rfl,?_,?_,fun _ h=>h,fun _ _=>rfl,fun x k' hk'=>i2 x k' hk',?_⟩
       ·rw[Option.map_none,e2] at hb
        simp only[Int.toNat_zero] at hb;simp[execOp,ho,ha,Instr.sliceAt,Z8 hun,Instr.slice,hb,Zy hag,e2]
        try cases base<;>simp[Addr.add]
       ·rw[e2];exact i1
       ·exact .own0 base (Z0f ..)
      | @own _ ki eκ =>
       simp only[OAt,eκ] at hO;have hO':=hO;obtain⟨h1,h2,h3,arr,h4,h5,h6⟩:=hO;have hb:=Z0s (P:=P) (isSlice:=true) (len:=ki.len) (cap:=ki.cap) q1 (by rw[h2];exact q2) (Int.le_refl 0) p1 (by omega) w
       let ki':KI:=⟨ki.b,ki.cap,sz',u.toNat⟩
       have hO2:ORep (World.setBlock w ki.b (.cells arr el (0,0))) I (setK κ k2 (some ki')) ki' (.row sz' el (es.take u.toNat)):=by
        rw[Z41 h4];refine⟨rfl,by simp[ki'];omega,by simp[ki'];omega,arr,h4,h5,fun i hi => ?_⟩;simp only[List.length_take] at hi;rw[List.getElem_take];exact h6 i (by omega)
       obtain⟨i1,i2,i3⟩:=hrel.inv.move hk2 eκ hfk (ki':=ki') rfl hO2;rw[Z41 h4] at i1 i2;refine⟨.slice (some ⟨ki.b,0,none⟩) u.toNat ki.cap,_,w,setK κ k2 (some ki'),I,.inl rfl,?_,i1,fun _ h=>h,fun _ _=>rfl,i3,?_⟩
       ·rw[Option.map_none] at hb
        simp only[Int.toNat_zero] at hb;simp[execOp,ho,ha,Instr.sliceAt,Z8 hun,Instr.slice,hb,Zy hag]
        try simp[Addr.add]
       ·exact Rep.own (ki:=ki') (Z0f ..)
     ·simp at he
    ·simp at he
   ·simp at he
  ·simp at he
def xSub (lo' n:Nat):Ext where
 f P o s:=match o.op with
  | .slice t x lo hi none=>match Z4b   P t,s.eval x with
   | some (e,sz),.own k=>match s.obj k with
    | some (.row sz' el es)=>match optN s lo 0,optN s hi es.length,Nat.beq sz' sz with
     | some l,some u,true=>some ⟨[k],[],.sub k lo' n,[],[l=(lo':Int),u=((lo'+n:Nat):Int),lo'+n≤es.length]⟩
     | _,_,_=>none
    | _=>none
   | _,_=>none
  | _=>none
 ok P o s e he hp:=by
  split at he
  ·rename_i t x lo hi ho
   split at he
   ·rename_i e' sz k hel hx
    split at he
    ·rename_i sz' el es hk
     split at he
     ·rename_i l u hl hu hsz
      obtain rfl:=Nat.eq_of_beq_eq_true hsz;obtain rfl:=Option.some.inj he;obtain⟨rfl,rfl,p2,_⟩:=hp;obtain⟨hun,ag,hag⟩:=Z2g hel;refine .quiet rfl fun Γ κ I s2 a w hP hrel hn => ?_;obtain⟨m1,m2,m3⟩:=Z5p (s:=s) ho;have g1:=opd hrel hn x m1 hx;have q1:=Z32 hrel hn m2 (Z6h hl);have q2:=Z32 hrel hn m3 (Z6h hu);have hO:=hrel.inv.objs k _ ((Z0t hn k (by simp)).trans hk);generalize ha:a.eval x=v at g1;cases g1 with
      | own0 base eκ =>
       simp only[OAt,eκ] at hO;obtain⟨_,_,e⟩:=hO;simp at e;obtain⟨rfl,rfl,rfl⟩:=e;simp only[List.length_nil] at p2 q2;obtain rfl:lo'=0:=by omega
       obtain rfl:n=0:=by omega
       have hb:=Z0s (P:=P) (isSlice:=true) (len:=0) (cap:=0) q1 q2 (by simp) (by simp) (by simp) w;refine⟨.slice base 0 0,?_,.sub0 base eκ⟩;simp at hb;simp[execOp,ho,ha,Instr.sliceAt,Z8 hun,Instr.slice,hb,Zy hag]
       try (cases base<;>simp)
      | @own _ ki eκ =>
       simp only[OAt,eκ] at hO;obtain⟨h1,h2,h3,arr,h4,h5,h6⟩:=hO;have hb:=Z0s (P:=P) (isSlice:=true) (len:=ki.len) (cap:=ki.cap) q1 (by rw[h2];exact q2) (by omega) (by omega) (by omega) w;have hn':lo'+n-lo'=n:=by omega
       simp only[Int.toNat_natCast] at hb;by_cases hc:ki.cap=lo'
       ·refine⟨.slice (some ⟨ki.b,0,none⟩) n (ki.cap-lo'),?_,.sub (off:=0) eκ (.inr hc.symm) (by omega) (by omega)⟩
        rw[hc] at hb;simp[execOp,ho,ha,Instr.sliceAt,Z8 hun,Instr.slice,hb,Zy hag,hc,hn']
       ·refine⟨.slice (some ⟨ki.b,lo'*sz',none⟩) n (ki.cap-lo'),?_,.sub (off:=lo'*sz') eκ (.inl (by rw[h1])) (by omega) (by omega)⟩
        simp[execOp,ho,ha,Instr.sliceAt,Z8 hun,Instr.slice,hb,Zy hag,hc,hn',Z2o]
     ·simp at he
    ·simp at he
   ·simp at he
  ·simp at he
def xMake (k:Nat) (es':List (List Im)):Ext where
 f P o s:=match o.op with
  | .makeSlice t x y=>match Z4b   P t,s.eval x,s.eval y with
   | some (e,sz),.im (.sc (.int _ l)),.im (.sc (.int _ c))=>match Z49    P e,zeroA P e with
    | some (by_,sz2),some z=>match toImL (Zx       z) with
     | some zs=>match Nat.beq sz2 sz&&Z25    (Zx       z) with
      | true=>some ⟨[],[k],.own k,[(k,some (.row sz e es'))],[es'=List.replicate l.toNat zs,0≤l,l≤c,(by_:Int)*c≤281474976710656,c≤9223372036854775807]⟩
      | false=>none
     | none=>none
    | _,_=>none
   | _,_,_=>none
  | _=>none
 ok P o s e he hp:=by
  split at he
  ·rename_i t x y ho
   split at he
   ·rename_i el sz kl l kc c hel hx hy
    split at he
    ·rename_i by_ sz2 z hby hz
     split at he
     ·rename_i zs hzs
      split at he
      ·rename_i hb
       simp only[Bool.and_eq_true] at hb;obtain⟨b1,b3⟩:=hb;obtain rfl:=Nat.eq_of_beq_eq_true b1;obtain rfl:=Option.some.inj he;obtain⟨rfl,p2,p3,p4,p5,_⟩:=hp;obtain⟨hun,ag,hag⟩:=Z2g hel;obtain⟨i0,zv,hinfo,hzero,hbytes,hsize,hzcs⟩:=Z4y hby;obtain rfl:Z5q zv=z:=by
        unfold zeroA at hz;rw[hinfo] at hz;simp[hzero] at hz;exact hz
       obtain⟨t1,t2⟩:=Z72 hzs;refine .of fun Γ κ I s2 a w hP hr hn hf => ?_;have hfk:=hf k (by simp[mkSp]);have g1:=(opd hr hn x (by simp[ho,Op.operands]) hx).sc_inv;have g2:=(opd hr hn y (by simp[ho,Op.operands]) hy).sc_inv;obtain⟨v1,v2,v3⟩:=Z29 (Z4x w I κ zv) b3;have hzl:zs.length=sz2:=by rw[t1,← v1,hzcs]
       let ki:KI:=⟨w.heap.size,c.toNat,sz2,l.toNat⟩
       let ob:Obj:=.cells (madeCells zv.cells (c.toNat*i0.size)) el
       have hrun:(Instr.makeSlice t (.int kl l) (.int kc c)).run P w = .ok (.slice (some ⟨w.heap.size,0,none⟩) l.toNat c.toNat) (World.alloc' w ob) :=
        run_make w t el i0 zv hun hinfo hzero kl kc l c p2 p3 (by rw[hbytes];exact p4) p5
       have hO:ORep (World.alloc' w ob) I (setK κ k (some ki)) ki (.row sz2 el (List.replicate l.toNat zs)):=by
        refine⟨rfl,by simp[ki],by simp[ki];omega,madeCells zv.cells (c.toNat*i0.size),Z3z _ _,by rw[size_madeCells,hsize],fun i hi => ?_⟩;simp only[List.length_replicate] at hi;rw[List.getElem_replicate];refine⟨hzl,fun j hj => ?_⟩;rw[hzl] at hj;obtain⟨u,u1,u2⟩:=v2 j (by omega);refine⟨u,?_,(toIm_rep u2 (t2 j (by omega) (by omega))).mono (fun _ h=>h) (fun b hb=>Z38 _ _ _ (hr.inv.bound b hb))⟩;have hlt:i*sz2+j<c.toNat*sz2:=Z8h (by omega) hj;have hm:(i*sz2+j) % sz2=j:=by rw[Nat.mul_comm,Nat.mul_add_mod,Nat.mod_eq_of_lt hj]
        have hcs:j<zv.cells.size:=by omega
        rw[← u1];simp only[madeCells,hsize,hzcs];simp[hlt,hm,hcs]
       obtain⟨f1,f2,f3⟩:=hr.inv.alloc hfk (ki:=ki) rfl hO;refine⟨_,_,_,_,I,.inl rfl,?_,f1,fun _ h=>h,f2,f3,.own (ki:=ki) (Z0f ..)⟩;simp[execOp,ho,g1,g2,hrun,ki]
      ·simp at he
     ·simp at he
    ·simp at he
   ·simp at he
  ·simp at he
def xCapNil:Ext where
 f P o s:=match o.op with
  | .call { callee:=.builtin .cap,args:=⟨[x]⟩,argTypes:=ts }=>match ts[0]? with
   | some t=>match P.underlying t,s.eval x with
    | some (.slice _),.none0=>some ⟨[],[],.im (.sc (.int .i64 0)),[],[]⟩
    | _,_=>none
   | none=>none
  | _=>none
 ok P o s e he hp:=by
  split at he
  ·rename_i x ts ho
   split at he
   ·rename_i t hts
    split at he
    ·rename_i el ht hx
     obtain rfl:=Option.some.inj he;refine .quiet rfl fun Γ κ I s2 a w hP hrel hn => ?_;have g1:=opd hrel hn x (by simp[ho,Op.operands,Call.operands]) hx;obtain⟨base,e⟩:=Z35 g1;refine⟨.int .i64 0,?_,.im (.sc _)⟩;simp[execOp,ho,resolve,invoke,builtin,e,Builtin.cap_,hts,Z8 ht,goInt]
    ·simp at he
   ·simp at he
  ·simp at he
theorem x_makeNoZero {P:Program} {g:FuncId} {fn:Func} (hf:P.funcs[g]? = some fn) (hname:(fn.name == "runtime.NumGoroutine")=false) (hb:fn.body.isNone=true) (hn:Extern.findNext fn=none) {ps:Array TypeId} {t e:TypeId}
  (he:Extern.find fn=some (Extern.BytealgMakeNoZero.makeNoZero ps #[t])) (ht:P.underlying t=some (.slice e)) (w:World) (n:Nat) (h:n≤281474976710656) :
  ∃ cs:Array Value,(callFunc g #[.int .i64 (n:Int)]).run P w = .ok (.value (.slice (some ⟨w.heap.size,0,none⟩) n cs.size)) (World.alloc' w.drew.drew (.cells cs e))∧n≤cs.size:=by
 obtain⟨cs,h1,h2,_⟩:=Lib.run_makeNoZero (P:=P) w ps t e ht n h;refine⟨cs,?_,h2⟩;rw[run_callFunc_extern hf hname hb hn he,h1];rfl
def xNoZero (g k el:Nat):Ext where
 f P o s:=match o.op with
  | .call { callee:=.value fo,args:=⟨[x]⟩,argTypes:=ts }=>match s.eval fo,s.eval x with
   | .im (.sc (.func (.func g') ⟨[]⟩ ⟨[]⟩)),.im (.sc (.int .i64 n))=>match Nat.beq g g' with
    | true=>some ⟨[],[k],.cut k 0 n.toNat,[(k,some (.row 1 el []))],[0≤n,n≤281474976710656,∀ (w:World) (n:Nat),n≤281474976710656→∃ cs:Array Value,(callFunc g #[.int .i64 (n:Int)]).run P w = .ok (.value (.slice (some ⟨w.heap.size,0,none⟩) n cs.size)) (World.alloc' w.drew.drew (.cells cs el))∧n≤cs.size]⟩
    | false=>none
   | _,_=>none
  | _=>none
 ok P o s e he hp:=by
  split at he
  ·rename_i fo x ts ho
   split at he
   ·rename_i g' n hfo hx
    split at he
    ·rename_i hb
     obtain rfl:=Nat.eq_of_beq_eq_true hb;obtain rfl:=Option.some.inj he;obtain⟨p1,p2,p3,_⟩:=hp;refine .of fun Γ κ I s2 a w hP hr hn hf => ?_;have hfk:=hf k (by simp[mkSp]);have h1:=(opd hr hn fo (by simp[ho,Op.operands,Call.operands]) hfo).sc_inv;have h2:=(opd hr hn x (by simp[ho,Op.operands,Call.operands]) hx).sc_inv;obtain⟨m,rfl⟩:∃ m:Nat,n=(m:Int):=⟨n.toNat,by omega⟩
     simp only[Int.toNat_natCast] at *;obtain⟨cs,hrun,hle⟩:=p3 w m (by omega);have hdrew1:Inv Γ κ I s2 w.drew:=by
      refine⟨fun k o hk => ?_,hr.inv.inj,hr.inv.disj,hr.inv.bound,⟨hr.inv.keep.os,hr.inv.keep.tape,hr.inv.keep.output,hr.inv.keep.size,hr.inv.keep.block⟩,hr.inv.ikeep,hr.inv.fromI,hr.inv.fromO,hr.inv.fix⟩;have:=hr.inv.objs k o hk;unfold OAt at this ⊢;split
      ·rename_i e';rw[e'] at this;exact this
      ·rename_i ki' e';rw[e'] at this;exact this.mono (fun _ h=>h) (fun _ _=>rfl) rfl (fun _ _=>rfl)
     have hdrew:Inv Γ κ I s2 w.drew.drew:=by
      refine⟨fun k o hk => ?_,hdrew1.inj,hdrew1.disj,hdrew1.bound,⟨hdrew1.keep.os,hdrew1.keep.tape,hdrew1.keep.output,hdrew1.keep.size,hdrew1.keep.block⟩,hdrew1.ikeep,hdrew1.fromI,hdrew1.fromO,hdrew1.fix⟩;have:=hdrew1.objs k o hk;unfold OAt at this ⊢;split
      ·rename_i e';rw[e'] at this;exact this
      ·rename_i ki' e';rw[e'] at this;exact this.mono (fun _ h=>h) (fun _ _=>rfl) rfl (fun _ _=>rfl)
     let ki:KI:=⟨w.drew.drew.heap.size,cs.size,1,0⟩
     let ob:Obj:=.cells cs el
     have hO:ORep (World.alloc' w.drew.drew ob) I (setK κ k (some ki)) ki (.row 1 el []) :=
      ⟨rfl,rfl,Nat.zero_le _,cs,Z3z _ _,by simp[ki],fun i hi=>by simp at hi⟩
     obtain⟨f1,f2,f3⟩:=hdrew.alloc hfk (ki:=ki) rfl hO;refine⟨.slice (some ⟨w.heap.size,0,none⟩) m cs.size,_,_,_,I,.inl rfl,?_,f1,fun _ h=>h,f2,f3,?_⟩
     ·simp only[execOp,ho,resolve,h1,h2,Deferred.ofValue,Sem.run_bind,Sem.run_pure,Result.andThen_ok,invoke]
      have:=hrun;simp[this,h2]
      try rfl
     ·have:=Rep.cut (w:=World.alloc' w.drew.drew ob) (I:=I) (κ:=setK κ k (some ki)) (k:=k) (lo:=0) (n:=m) (off:=0) (ki:=ki) (Z0f       ..) (.inl (by simp)) (by simp[ki];exact hle)
      exact this
    ·simp at he
   ·simp at he
  ·simp at he
def xCut0:Ext where
 f P o s:=match o.op with
  | .slice t x none hi none=>match Z4b   P t,s.eval x with
   | some (e,sz),.cut k 0 n=>match s.obj k with
    | some (.row sz' el [])=>match optN s hi n with
     | some u=>some ⟨[k],[],.own k,[],[u=0,0<n]⟩
     | none=>none
    | _=>none
   | _,_=>none
  | _=>none
 ok P o s e he hp:=by
  split at he
  ·rename_i t x hi ho
   split at he
   ·rename_i e' sz k n hel hx
    split at he
    ·rename_i sz' el hk
     split at he
     ·rename_i u hu
      obtain rfl:=Option.some.inj he;obtain⟨rfl,hn0,_⟩:=hp;obtain⟨hun,ag,hag⟩:=Z2g hel;refine .quiet rfl fun Γ κ I s2 a w hP hrel hn => ?_;obtain⟨m1,m2,m3⟩:=Z5p (s:=s) ho;have g1:=opd hrel hn x m1 hx;have q1:optV ((none:Option Operand).map a.eval) 0 0:=Z32 hrel hn m2 (show optA s none 0 0 from rfl);have q2:=Z32 hrel hn m3 (Z6h hu);have hk2:=(Z0t hn k (by simp)).trans hk;have hO:=hrel.inv.objs k _ hk2;generalize ha:a.eval x=v at g1;cases g1 with
      | cut0 base eκ =>
       have hb:=Z0s (P:=P) (isSlice:=true) (len:=0) (cap:=0) q1 q2 (Int.le_refl 0) (Int.le_refl 0) (by omega) w;refine⟨.slice base 0 0,?_,.own0 base eκ⟩;rw[Option.map_none] at hb;simp only[Int.toNat_zero] at hb;simp[execOp,ho,ha,Instr.sliceAt,Z8 hun,Instr.slice,hb,Zy hag]
       try cases base<;>simp[Addr.add]
      | @cut _ _ _ off ki eκ h1 h2 =>
       simp only[OAt,eκ] at hO;obtain⟨o1,o2,o3,arr,o4,o5,o6⟩:=hO;have hb:=Z0s (P:=P) (isSlice:=true) (len:=n) (cap:=ki.cap-0) q1 q2 (Int.le_refl 0) (Int.le_refl 0) (by omega) w;have hlen:ki.len=0:=by simpa using o2
       have hoff:off=0:=by
        rcases h1 with h1 | h1
        ·simpa using h1
        ·omega
       subst hoff;refine⟨.slice (some ⟨ki.b,0,none⟩) 0 ki.cap,?_,by have:=Rep.own (w:=w) (I:=I) eκ;rw[hlen] at this;exact this⟩;rw[Option.map_none] at hb;simp only[Int.toNat_zero,Nat.sub_zero] at hb ha;simp[execOp,ho,ha,Instr.sliceAt,Z8 hun,Instr.slice,hb,Zy hag]
       try simp[Addr.add]
     ·simp at he
    ·simp at he
   ·simp at he
  ·simp at he
def xCopy0:Ext where
 f P o s:=match o.op with
  | .call { callee:=.builtin .copy,args:=⟨[x,y]⟩,argTypes:=ts }=>match ts[0]? with
   | some t=>match Z4b   P t,s.eval x,s.eval y with
    | some _,.own k,.none0=>match s.obj k with
     | some (.row sz el [])=>some ⟨[k],[],.im (.sc (.int .i64 0)),[],[]⟩
     | _=>none
    | _,_,_=>none
   | none=>none
  | _=>none
 ok P o s e he hp:=by
  split at he
  ·rename_i x y ts ho
   split at he
   ·rename_i t hts
    split at he
    ·rename_i p k hel hx hy
     split at he
     ·rename_i sz el hk
      obtain rfl:=Option.some.inj he;obtain⟨hun,ag,hag⟩:=Z2g hel;refine .quiet rfl fun Γ κ I s2 a w hP hrel hn => ?_;have g1:=opd hrel hn x (by simp[ho,Op.operands,Call.operands]) hx;have g2:=opd hrel hn y (by simp[ho,Op.operands,Call.operands]) hy;obtain⟨base,e⟩:=Z35 g2;have hk2:=(Z0t hn k (by simp)).trans hk;have hO:=hrel.inv.objs k _ hk2;have hfc:∀ (sz:Nat) (w:World),(Builtin.firstCells sz 0 (.slice base 0 0)).run P w = .ok #[] w:=by
       intro sz w;cases base<;>simp[Builtin.firstCells,loadCells,loadCellsFrom]
      generalize ha:a.eval x=v at g1;refine⟨.int .i64 0,?_,.im (.sc _)⟩;cases g1 with
      | own0 base' eκ =>
       cases base'<;>simp[execOp,ho,resolve,invoke,builtin,ha,e,Builtin.copy_,hts,Z8 hun,Builtin.lenOf,Zy hag,hfc,goInt,storeCells]
      | @own _ ki eκ =>
       simp[execOp,ho,resolve,invoke,builtin,ha,e,Builtin.copy_,hts,Z8 hun,Builtin.lenOf,Zy hag,hfc,goInt,storeCells]
     ·simp at he
    ·simp at he
   ·simp at he
  ·simp at he
theorem Inv.data {Γ:Ctx} {κ:Nat→Option KI} {I:Nat→Prop} {s:Z1} {w w':World} (h:Inv Γ κ I s w) (h1:∀ b,b<w.heap.size→w'.heap[b]? = w.heap[b]?) (h2:w'.heap.size=w.heap.size+1)
  (h3:w'.os=w.os) (h4:w'.tape=w.tape) (h5:w'.output=w.output):Inv Γ κ (fun b=>I b∨b=w.heap.size) s w'∧∀ b,I b→w'.heap[b]? = w.heap[b]? := by
 have hI:∀ b,I b→w'.heap[b]? = w.heap[b]? := fun b hb=>h1 b (h.bound b hb)
 have hlt:∀ k o ki,s.obj k=some o→κ k=some ki→ki.b<w.heap.size:=by
  intro k o ki e eκ;have:=h.objs k o e;simp only[OAt,eκ] at this;cases o with
  | row=>obtain⟨_,_,_,arr,h3,_⟩:=this;exact(Array.getElem?_eq_some_iff.1 h3).1
  | box=>obtain⟨_,_,arr,h3,_⟩:=this;exact(Array.getElem?_eq_some_iff.1 h3).1
  | map=>obtain⟨arr,h3,_⟩:=this;exact(Array.getElem?_eq_some_iff.1 h3).1
  | iter=>obtain⟨bm,h3,_⟩:=this;exact(Array.getElem?_eq_some_iff.1 h3).1
  | arow=>obtain⟨_,_,_,arr,h3,_⟩:=this;exact(Array.getElem?_eq_some_iff.1 h3).1
 refine⟨⟨fun k o hk => ?_,h.inj,fun k o ki hk e hb => ?_,fun b hb => ?_,?_,fun b hb=>.inl (h.ikeep b hb),fun b hb => ?_,h.fromO,h.fix⟩,hI⟩
 ·have:=h.objs k o hk
  unfold OAt at this ⊢;cases e:κ k with
  | none=>rw[e] at this;exact this
  | some ki=>rw[e] at this;exact this.mono (fun b h=>.inl h) hI (h1 _ (hlt k o ki hk e)) (fun _ _=>rfl)
 ·rcases hb with hb | hb
  ·exact h.disj k o ki hk e hb
  ·have:=hlt k o ki hk e;omega
 ·rcases hb with hb | hb
  ·have:=h.bound b hb;omega
  ·omega
 ·exact⟨h3.trans h.keep.os,h4.trans h.keep.tape,h5.trans h.keep.output,by have:=h.keep.size;omega,fun b hb hn=>(h1 b (Nat.lt_of_lt_of_le hb h.keep.size)).trans (h.keep.block b hb hn)⟩
 ·rcases hb with hb | hb
  ·exact h.fromI b hb
  ·exact .inr (.inr (by have:=h.keep.size;omega))
def xBytes:Ext where
 f P o s:=match o.op with
  | .convert st t x=>match P.underlying st,P.underlying t,s.eval x with
   | some .string,some (.slice e),.im (.sc (.string b))=>match P.underlying e with
    | some (.int .u8)=>some ⟨[],[],.im (.row ((Z0m b).map (Z24 .u8))),[],[]⟩
    | _=>none
   | _,_,_=>none
  | _=>none
 ok P o s e he hp:=by
  split at he
  ·rename_i st t x ho
   split at he
   ·rename_i el b hs ht hx
    split at he
    ·rename_i hu
     obtain rfl:=Option.some.inj he;refine .of fun Γ κ I s2 a w hP hr hn hf => ?_;have g:=(opd hr hn x (by simp[ho,Op.operands]) hx).sc_inv;have hrun:=Lib.run_convert_string_bytes (P:=P) w st t el b hs ht hu;obtain⟨i1,i2⟩:=hr.inv.data (w':=Lib.bytesWorld w el b) (fun j hj=>Lib.bytesWorld_at_old w el b j hj) (Lib.bytesWorld_size w el b) (by
      unfold Lib.bytesWorld;unfold World.freeze;split<;>rfl) (by unfold Lib.bytesWorld;unfold World.freeze;split<;>rfl) (by unfold Lib.bytesWorld;unfold World.freeze;split<;>rfl)
     refine⟨.slice (some ⟨w.heap.size,0,none⟩) b.size (grownCap w b.size 0 el),_,Lib.bytesWorld w el b,κ,fun c=>I c∨c=w.heap.size,.inl rfl,by simp only[execOp,ho,g,Sem.run_bind,hrun,Result.andThen_ok,Sem.run_pure],i1,fun c hc=>.inl hc,i2,fun _ _ _=>rfl,.im ?_⟩;have hlen:b.size=((Z0m b).map (Z24 .u8)).length:=by rw[List.length_map];simp only[Z0m,List.length_map,Array.length_toList];rfl
     refine IRep.row (sz:=1) (off:=0) (fun i _=>.int .u8 ((b.data.toList.getD i 0).toNat)) hlen (.inr rfl) ?_ (fun i h => ?_) (fun i j hi hj => ?_) (fun i h j h' => ?_)
     ·show b.size≤grownCap w b.size 0 el
      unfold grownCap Question.cut;exact Nat.le_add_right ..
     ·simp
     ·have:j=0:=by omega
      subst this;rw[show 0+(i*1+0)=i from by omega];exact Lib.bytesWorld_cell w el b i (by omega)
     ·simp only[List.getElem_map,Z24   ,List.length_cons,List.length_nil] at h'
      have:j=0:=by omega
      subst this;simp only[List.length_map] at h;have hl2:i<b.data.toList.length:=by simpa[Z0m] using h
      have e1:((Z0m b).map (Z24 .u8))[i]'(by simpa using h)=[.sc (.int .u8 ((b.data.toList.getD i 0).toNat))]:=by
       rw[List.getElem_map];have:(Z0m b)[i]=((b.data.toList.getD i 0).toNat:Int):=by
        simp only[Z0m,List.getElem_map];rw[List.getD_eq_getElem?_getD,List.getElem?_eq_getElem hl2];rfl
       rw[this]
      simp only[e1,List.getElem_cons_zero];exact .sc _
    ·simp at he
   ·simp at he
  ·simp at he
end Go.Pv
namespace Go.Pv
open Go
theorem run_ifNil {P:Program} {t:TypeId} {ms:Array (String×TypeId)} (ht:P.underlying t=some (.interface ms)) (w:World):(Op.equal t .nilIface .nilIface).run P w = .ok true w:=by
 unfold Op.equal Op.maxDepth;rw[Op.equalIn];simp only[Sem.run_bind,Z8 ht,Result.andThen_ok,Sem.run_pure]
theorem Z8c {P:Program} {t:TypeId} {r:Bool} {w:World} (h:(Op.equal t .nilIface .nilIface).run P w = .ok r w):(binOp .eql t .nilIface .nilIface).run P w = .ok (.bool r) w∧(binOp .neq t .nilIface .nilIface).run P w = .ok (.bool !r) w:=by
 constructor
 ·show(do pure (.bool (← Op.equal t .nilIface .nilIface)):Sem Value).run P w=_
  rw[Sem.run_bind,h];rfl
 ·show(do pure (.bool (!(← Op.equal t .nilIface .nilIface))):Sem Value).run P w=_
  rw[Sem.run_bind,h];rfl
def xIfNil:Ext where
 f P o s:=match o.op with
  | .binOp .eql t x (.const .nilIface) _=>match P.underlying t,s.eval x with
   | some (.interface _),.im (.sc .nilIface)=>some ⟨[],[],.im (.sc (.bool true)),[],[]⟩
   | _,_=>none
  | .binOp .neq t x (.const .nilIface) _=>match P.underlying t,s.eval x with
   | some (.interface _),.im (.sc .nilIface)=>some ⟨[],[],.im (.sc (.bool false)),[],[]⟩
   | _,_=>none
  | _=>none
 ok P o s e he hp:=by
  split at he
  ·rename_i t x _ ho
   split at he
   ·rename_i ms ht hx
    obtain rfl:=Option.some.inj he;exact .quiet rfl fun Γ κ I s2 a w hP hrel hn=>by
     have g:=opd hrel hn x (by simp[ho,Op.operands]) rfl;rw[hx] at g;have e:=g.sc_inv;have hc:a.eval (.const .nilIface) = .nilIface:=rfl;exact⟨.bool true,by simp only[execOp,ho,e,hc,Sem.run_bind,eqGuard_nil_constR,Sem.run_pure,Result.andThen_ok,(Z8c (run_ifNil (P:=P) ht w)).1],.im (.sc _)⟩
   ·simp at he
  ·rename_i t x _ ho
   split at he
   ·rename_i ms ht hx
    obtain rfl:=Option.some.inj he;exact .quiet rfl fun Γ κ I s2 a w hP hrel hn=>by
     have g:=opd hrel hn x (by simp[ho,Op.operands]) rfl;rw[hx] at g;have e:=g.sc_inv;have hc:a.eval (.const .nilIface) = .nilIface:=rfl;exact⟨.bool false,by simp only[execOp,ho,e,hc,Sem.run_bind,eqGuard_nil_constR,Sem.run_pure,Result.andThen_ok,(Z8c (run_ifNil (P:=P) ht w)).2];rfl,.im (.sc _)⟩
   ·simp at he
  ·simp at he
end Go.Pv
namespace Go.Pv
def xIdxG {α:Type} (enc:α→Value) (tab:List α) (b:α):Ext where
 f P o s:=match o.op with
  | .indexAddr t x i=>match P.underlying t,s.eval x,s.eval i with
   | some (.array len el),.gl g,.im (.sc (.int kk m))=>match aggP P el with
    | some (ag,sz)=>some ⟨[],[],.ip [.sc (enc b)],[],[sz=1,Z2r P g=some (tab.map enc),tab.length=len,0≤m,tab[m.toNat]? = some b]⟩
    | none=>none
   | _,_,_=>none
  | _=>none
 ok P o s ef he hp:=by
  split at he
  ·rename_i t x i ho
   split at he
   ·rename_i len el g kk m ht hx hi
    split at he
    ·rename_i ag sz hag
     obtain rfl:=Option.some.inj he;obtain⟨rfl,hg,hlen,hm,hb,_⟩:=hp;refine .quiet rfl fun Γ κ I s2 a w hP hr hn => ?_;have h:=opd hr hn x (by simp[ho,Op.operands]) hx;have h':=(opd hr hn i (by simp[ho,Op.operands]) hi).sc_inv;generalize ha:a.eval x=v at h;obtain⟨k,rfl⟩:=Int.eq_ofNat_of_zero_le hm;simp only[Int.toNat_natCast] at hb;have hk:k<tab.length:=by
      rcases Nat.lt_or_ge k tab.length with h | h
      ·exact h
      ·rw[List.getElem?_eq_none h] at hb;cases hb
     have hlt:k<len:=hlen ▸ hk;obtain⟨t1,t2,t3,t4,t5⟩:=hr.inv.tab (by rw[hP];exact hg);cases h with
     | gl g =>
      refine⟨.pointer (some ⟨g,k,none⟩),?_,?_⟩
      ·simp[execOp,ho,ha,h',Instr.indexAt,asIntOf,Z8 ht,hlt,Instr.sureAddr,Zy hag,Z2o]
      ·refine .ip (fun _=>enc b) t1 (fun j hj => ?_) (fun j hj => ?_)
       ·obtain rfl:j=0:=by simpa using hj
        simp[World.cell?,t5,hb]
       ·obtain rfl:j=0:=by simpa using hj
        exact .sc _
    ·simp at he
   ·simp at he
  ·simp at he
def xSliceG {α:Type} (enc:α→Value) (tab:List α):Ext where
 f P o s:=match o.op with
  | .slice t x none none none=>match P.underlying t,s.eval x with
   | some (.array len el),.gl g=>match aggP P el with
    | some (ag,sz)=>some ⟨[],[],.im (.row (tab.map fun b=>[.sc (enc b)])),[],[sz=1,Z2r P g=some (tab.map enc),tab.length=len]⟩
    | none=>none
   | _,_=>none
  | _=>none
 ok P o s ef he hp:=by
  split at he
  ·rename_i t x ho
   split at he
   ·rename_i len el g ht hx
    split at he
    ·rename_i ag sz hag
     obtain rfl:=Option.some.inj he;obtain⟨rfl,hg,hlen,_⟩:=hp;refine .quiet rfl fun Γ κ I s2 a w hP hr hn => ?_;have h:=opd hr hn x (by simp[ho,Op.operands]) hx;generalize ha:a.eval x=v at h;obtain⟨t1,t2,t3,t4,t5⟩:=hr.inv.tab (by rw[hP];exact hg);cases h with
     | gl g =>
      refine⟨.slice (some ⟨g,0,none⟩) len len,?_,?_⟩
      ·simp[execOp,ho,ha,Instr.sliceAt,Instr.sliceBounds,Z8 ht,Instr.sureAddr,Zy hag,Z2o]
      ·refine .im (.row (sz:=1) (fun i j=>((tab.map enc)[i]?).getD undef) (by simp[hlen]) t1 (Nat.le_refl _) (fun i h=>by simp) (fun i j hi hj => ?_) (fun i h j h' => ?_))
       ·obtain rfl:j=0:=by omega
        have hi:i<tab.length:=by simpa using hi
        simp[World.cell?,t5,hi]
       ·have hi:i<tab.length:=by simpa using h
        obtain rfl:j=0:=by simpa using h'
        simp[hi];exact .sc _
    ·simp at he
   ·simp at he
  ·simp at he
abbrev hGS {P:Program} {α:Type} {g:Nat} {tab:List α} (n:Nat) (enc:α→Value) (hg:Z2r P g=some (tab.map enc)) (hl:tab.length=n:=by rfl):HI :=
 ⟨.more (xSliceG enc tab),.c (p:=(1:Nat)=1) rfl (.c hg (.c hl .n))⟩
abbrev hGX {P:Program} {α:Type} {g:Nat} {tab:List α} {i:Int} {b:α} (n:Nat) (enc:α→Value) (hg:Z2r P g=some (tab.map enc)) (h0:0≤i) (h1:tab[i.toNat]? = some b) (hl:tab.length=n:=by rfl):HI :=
 ⟨.more (xIdxG enc tab b),.c (p:=(1:Nat)=1) rfl (.c hg (.c hl (.c h0 (.c h1 .n))))⟩
end Go.Pv
open Go.RowKit
namespace Go.Pv
def TabsAt (P:Program) (w:World):Prop:=∀ g cs,Z2r P g=some cs→g<w.heap.size∧∃ t m,w.heap[g]? = some (.cells cs.toArray t m)
theorem Fn.lawG {P:Program} {f:FuncId} {args:List AVal} {vs:List Value} {w:World} (h:Fn P f args [] 0 (fun x o=>x=bV true∧o=[]))
  (hl:vs.length=args.length) (hreps:∀ j (h:j<args.length) (h':j<vs.length),Rep w (fun b=>b<w.heap.size) (fun _=>none) (args[j]) (vs[j])) (ht:TabsAt P w) :
  Calls P f vs.toArray w fun e w'=>e = .returned (.bool true)∧Below w.heap.size w w':=by
 have hg:Z6r P (fun b=>b<w.heap.size) (entryM (fun _=>none) ⟨[],[],0⟩) w:=fun g cs e=>⟨(ht g cs e).1,(fun⟨k,o,ki,h1,_⟩=>by simp[Z1.obj,look] at h1),ht g cs e⟩
 have hinv:Inv (Z4w P 0 (fun _=>none) (fun b=>b<w.heap.size) ⟨[],[],0⟩ w hg) (fun _=>none) (fun b=>b<w.heap.size) ⟨[],[],0⟩ w:=by
  refine⟨?_,?_,?_,fun b h=>h,Z88.refl _ _,fun _ h=>h,fun b h=>.inl h,?_,fun _ _=>rfl⟩
  ·intro k o h;simp[Z1.obj,look] at h
  ·intro k k' o o' ki ki' h;simp[Z1.obj,look] at h
  ·intro k o ki h;simp[Z1.obj,look] at h
  ·intro k o ki h;simp[Z1.obj,look] at h
 refine(h (fun _=>none) (fun b=>b<w.heap.size) w vs hl hreps hg hinv).mono ?_;rintro e w' ⟨v,r,o,κ',I',rfl,⟨rfl,rfl⟩,hr,hi⟩;refine⟨by rw[hr.sc_inv],?_⟩;have hM:∀ b,b<w.heap.size→w'.heap[b]? = w.heap[b]? := fun b hb=>hi.keep.block b hb (fun hm=>by
  obtain⟨k,o,ki,h1,_⟩:=hm;simp[Z1.obj,look] at h1)
 exact⟨hi.keep.os,hi.keep.tape,hi.keep.output,hi.keep.size,hM⟩
theorem Fn.quiet {P:Program} {f:FuncId} {vs:List Value} {r:Value} {floor:Nat}
  (h:∀ (w:World) (I M:Nat→Prop),Z6r P I M w→Calls P f vs.toArray w fun e w'=>e = .returned r∧∃ k os,w'=Sort.grow (w.drewN k) os) :
  Fn P f (vs.map fun v=>.im (.sc v)) [] floor (fun x o=>x = .im (.sc r)∧o=[]):=by
 intro κ I w vs' hl hreps hg hinv;have hvs:vs'=vs:=by
  apply List.ext_getElem (by simpa using hl);intro j h1 h2;have:=hreps j (by simpa using h2) h1;rw[List.getElem_map] at this;exact this.sc_inv
 subst hvs;refine(h w I _ hg).mono ?_;rintro e w' ⟨rfl,k,os,rfl⟩;have hb:∀ b,b<w.heap.size→(Sort.grow (w.drewN k) os).heap[b]? = w.heap[b]? := fun b hb=>by
  rw[Sort.heap_grow_old _ _ (by simpa using hb)];rfl
 have hs:w.heap.size≤(Sort.grow (w.drewN k) os).heap.size:=by simp
 refine⟨r,.im (.sc r),[],κ,I,rfl,⟨rfl,rfl⟩,.im (.sc _),?_⟩;have ho:∀ k,(⟨[],[],floor⟩:Z1).obj k=none:=fun k=>by simp[Z1.obj,look]
 refine⟨?_,?_,?_,fun b hI=>Nat.lt_of_lt_of_le (hinv.bound b hI) hs,⟨rfl,rfl,rfl,hs,fun b hlt _=>hb b hlt⟩,fun _ h=>h,fun b h=>.inl h,?_,hinv.fix⟩
 ·intro k o h;rw[ho] at h;cases h
 ·intro k k' o o' ki ki' h;rw[ho] at h;cases h
 ·intro k o ki h;rw[ho] at h;cases h
 ·intro k o ki h;rw[ho] at h;cases h
theorem Z6r.tabIs {P:Program} {I M:Nat→Prop} {w:World} (h:Z6r P I M w) {g:Nat} {name:String} {k:IntKind} {zs:List Int} (hn:P.globalNamed name=some g)
  (ht:Z2r P g=some (zs.map (Value.int k))):Lib.TabIs P w name k zs:=by
 obtain⟨_,_,_,t,m,e⟩:=h g _ ht;unfold Lib.TabIs World.var?;simp[hn,e]
end Go.Pv
namespace Go.Pv
open Go
theorem x_countString {P:Program} {g:FuncId} {fn:Func} (hf:P.funcs[g]? = some fn) (hname:(fn.name == "runtime.NumGoroutine")=false) (hb:fn.body.isNone=true) (hn:Extern.findNext fn=none) (he:Extern.find fn=some Extern.BytealgCount.count)
  {s:ByteArray} {c:Int} (w:World):(callFunc g ([.string s,.int .u8 c]:List Value).toArray).run P w = .ok (.value (.int .i64 ((Lib.countByte s.data.toList c.toNat.toUInt8:Nat):Int))) w:=by
 rw[run_callFunc_extern hf hname hb hn he];have:=Lib.run_countString (P:=P) s c w;simp only[this,Result.andThen_ok]
end Go.Pv
