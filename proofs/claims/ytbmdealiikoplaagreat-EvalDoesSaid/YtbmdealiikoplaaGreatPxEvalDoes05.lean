import Derived.Lib.MakeNoZero
import Derived.Test.YtbmdealiikoplaaGreatPxEvalDoes04
set_option linter.unusedVariables false
set_option linter.unusedSimpArgs false
namespace Go.Pv
def xIdxA (n:Nat):Ext where
 f P o s:=match o.op with
  | .indexAddr t x i=>match P.underlying t,s.eval x,s.eval i with
   | some (.array len el),.ptr k e j,.im (.sc (.int kk m))=>match aggP P el,Nat.blt n len with
    | some (ag,sz),true=>some ⟨[],[],.ptr k e (j+n*sz),[],[m=(n:Int)]⟩
    | _,_=>none
   | _,_,_=>none
  | _=>none
 ok P o s ef he hp:=by
  split at he
  ·rename_i t x i ho
   split at he
   ·rename_i len el k e j kk m ht hx hi
    split at he
    ·rename_i ag sz hag hlt
     obtain rfl:=Option.some.inj he
     obtain⟨rfl,_⟩:=hp
     have hlt:n<len:=by simpa[Nat.blt_eq] using hlt
     refine .quiet rfl fun Γ κ I s2 a w hP hr hn => ?_
     have h:=opd hr hn x (by simp[ho,Op.operands]) hx
     have h':=(opd hr hn i (by simp[ho,Op.operands]) hi).sc_inv
     generalize ha:a.eval x=v at h
     cases h with
     | @ptr _ _ _ ki ek =>
      refine⟨.pointer (some ⟨ki.b,e*ki.sz+j+n*sz,none⟩),?_,?_⟩
      ·simp[execOp,ho,ha,h',Instr.indexAt,asIntOf,run_underlying' ht,hlt,Instr.sureAddr,run_sizeOf' hag,addr_add]
      ·show Rep w I κ (.ptr k e (j+n*sz)) _
       rw[Nat.add_assoc];exact .ptr ek
    ·simp at he
   ·simp at he
  ·simp at he
def eqIs (P:Program) (e:TypeId) (c:Nat) (xs ys:List Value):List Nat→Option Bool
 | []=>some true
 | i::is=>match xs[i*c]?,ys[i*c]? with
  | some a,some b=>match eqScal P e a b,eqIs P e c xs ys is with
   | some r,some q=>some (r&&q)
   | _,_=>none
  | _,_=>none
theorem eqIs_ok {P:Program} (d:Nat) (e:TypeId) (c:Nat) (xs ys:List Value) (w:World):∀ {is:List Nat} {r:Bool},eqIs P e c xs ys is=some r→(Op.eqItems (d+1) e c xs.toArray ys.toArray is).run P w = .ok r w:=by
 intro is
 induction is with
 | nil=>intro r h;obtain rfl:=Option.some.inj h;simp[Op.eqItems]
 | cons i is ih =>
  intro r h
  unfold eqIs at h
  split at h
  ·rename_i a b ha hb
   split at h
   ·rename_i r1 q hr hq
    obtain rfl:=Option.some.inj h
    obtain⟨g1,g2⟩:=eqScal_ok hr d w
    have ha':(xs.toArray)[i*c]? = some a:=by simpa using ha
    have hb':(ys.toArray)[i*c]? = some b:=by simpa using hb
    simp only[Op.eqItems,Sem.run_bind,run_part_plain w g2 ha',run_part_plain w g2 hb',Result.andThen_ok,g1]
    cases r1 with
    | false=>simp
    | true=>simpa using ih hq
   ·simp at h
  ·simp at h
def xAggA (b:Option Bool):Ext where
 f P o s:=match o.op with
  | .binOp op t x y _=>match s.eval x,s.eval y with
   | .agg xs,.agg ys=>match scVals xs,scVals ys,P.eqGuardType P.depth t,P.underlying t with
    | some vx,some vy,false,some (.array n e)=>match P.info? e,eqIs P e (P.cellsOf e) vx vy (List.range n) with
     | some _,some r=>match op with
      | .eql=>some ⟨[],[],.im (.sc (.bool (optB b r).1)),[],(optB b r).2⟩
      | .neq=>some ⟨[],[],.im (.sc (.bool (optB b !r).1)),[],(optB b !r).2⟩
      | _=>none
     | _,_=>none
    | _,_,_,_=>none
   | _,_=>none
  | _=>none
 ok P o s e he hp:=by
  split at he
  ·rename_i op t x y _ ho
   split at he
   ·rename_i xs ys hx hy
    split at he
    ·rename_i vx vy n el h1 h2 h3 h5
     split at he
     ·rename_i inf r hi hr
      have key:∀ (Γ:Ctx) (κ:Nat→Option KI) (I:Nat→Prop) (s2:AState) (a:Act) (w:World),Γ.P=P→Rel Γ κ I s2 a w→(mkSp s o [] [] (.im (.sc (.bool r))) []).needs s2 →
        a.eval x = .agg vx.toArray∧a.eval y = .agg vy.toArray:=fun Γ κ I s2 a w hP hrel hn =>
       ⟨agg_sc h1 (opd hrel hn x (by simp[ho,Op.operands]) hx),agg_sc h2 (opd hrel hn y (by simp[ho,Op.operands]) hy)⟩
      have heq:∀ w,(Op.equalIn 10000 t (.agg vx.toArray) (.agg vy.toArray)).run P w = .ok r w:=fun w=>by
       rw[run_equalIn_array w 9999 _ _ h5 hi]
       exact eqIs_ok 9998 _ _ vx vy w hr
      split at he
      ·obtain rfl:=Option.some.inj he
       simp only at hp ⊢
       rw[optB_eq hp]
       exact .quiet rfl fun Γ κ I s2 a w hP hrel hn=>by
        obtain⟨e1,e2⟩:=key Γ κ I s2 a w hP hrel hn
        refine⟨.bool r,?_,.im (.sc _)⟩
        simp only[execOp,ho,e1,e2,Sem.run_bind,run_eqGuard_agg w _ t x y _ _ h3,Result.andThen_ok,run_eql_struct,heq,Sem.run_pure]
      ·obtain rfl:=Option.some.inj he
       simp only at hp ⊢
       rw[optB_eq hp]
       exact .quiet rfl fun Γ κ I s2 a w hP hrel hn=>by
        obtain⟨e1,e2⟩:=key Γ κ I s2 a w hP hrel hn
        refine⟨.bool !r,?_,.im (.sc _)⟩
        simp only[execOp,ho,e1,e2,Sem.run_bind,run_eqGuard_agg w _ t x y _ _ h3,Result.andThen_ok,run_neq_struct,heq,Sem.run_pure]
      ·simp at he
     ·simp at he
    ·simp at he
   ·simp at he
  ·simp at he
end Go.Pv
