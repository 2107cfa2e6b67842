import Derived.Laws.Append
import Derived.Test.YtinhldbfifpakaaGreatPxEntryImages00
set_option linter.unusedVariables false
set_option linter.unusedSimpArgs false
namespace Go.Pv
def Zah (P:Program) (n:Nat) (κ:Nat→Option KI) (I:Nat→Prop) (s:Z5) (w:World):Ctx :=
 { P,n,w0:=w,I0:=I,M0:=fun b=>∃ k o ki,s.obj k=some o∧κ k=some ki∧ki.b=b,κ0:=κ }
def Fn (P:Program) (f:FuncId) (args:List AVal) (objs:List (Nat×Option MObj)) (floor:Nat) (Q:AVal→List (Nat×Option MObj)→Prop):Prop :=
 ∀ (κ:Nat→Option KI) (I:Nat→Prop) (w:World) (vs:List Value),vs.length=args.length→(∀ j (h:j<args.length) (h':j<vs.length),Rep w I κ (args[j]) (vs[j])) →
  Inv (Zah P 0 κ I ⟨[],objs,floor⟩ w) κ I ⟨[],objs,floor⟩ w →
  Calls P f vs.toArray w fun e w'=>∃ v r objs' κ' I',e = .returned v∧Q r objs'∧Rep w' I' κ' r v∧Inv (Zah P 0 κ I ⟨[],objs,floor⟩ w) κ' I' ⟨[],objs',floor⟩ w'
theorem Fn.mono {P:Program} {f:FuncId} {args:List AVal} {objs:List (Nat×Option MObj)} {floor:Nat} {Q Q':AVal→List (Nat×Option MObj)→Prop} (h:Fn P f args objs floor Q)
  (hq:∀ r o,Q r o→Q' r o):Fn P f args objs floor Q':=fun κ I w vs h1 h2 h3 =>
 (h κ I w vs h1 h2 h3).mono fun e w' ⟨v,r,o,κ',I',e1,e2,e3,e4⟩=>⟨v,r,o,κ',I',e1,hq _ _ e2,e3,e4⟩
def resA (P:Program) (s:Z5):ResultVar→Option AVal
 | .tmp t=>some (s.get t)
 | .cell a t=>match s.get a with
  | .ptr k 0 j=>match s.obj k with
   | some (.box el cells)=>match aggP P t with
    | some (ag,sz)=>Zec ag sz (cells.drop j)
    | none=>none
   | _=>none
  | _=>none
def resL (P:Program) (s:Z5):List ResultVar→Option (List AVal)
 | []=>some []
 | x::r=>match resA P s x,resL P s r with
  | some y,some l=>some (y::l)
  | _,_=>none
def resOf (P:Program) (fn:Func) (s:Z5):Option AVal :=
 match resL P s fn.results.toList with
 | some [r]=>some r
 | some l=>some (.tup l)
 | none=>none
def resRun (tmps:Array Value):ResultVar→Sem Value
 | .tmp t=>pure (tmps.getD t undef)
 | .cell c t=>do loadVar t (← asAddr (tmps.getD c undef))
theorem results_eq (fn:Func) (tmps:Array Value):results fn tmps=(fn.results.mapM (resRun tmps)>>=fun vs=>pure (if h:vs.size=1 then vs[0] else .tuple vs)):=by
 unfold results;congr 2
theorem run_resA {Γ:Ctx} {κ:Nat→Option KI} {I:Nat→Prop} {s:Z5} {a:Act} {w:World} (h:Rel Γ κ I s a w) {x:ResultVar} {r:AVal} (hr:resA Γ.P s x=some r) :
  ∃ v,(resRun a.tmps x).run Γ.P w = .ok v w∧Rep w I κ r v:=by
 cases x with
 | tmp t=>exact⟨_,rfl,by obtain rfl:=Option.some.inj hr;exact h.slots t⟩
 | cell c t =>
  simp only[resA] at hr;split at hr
  ·rename_i k j hg
   split at hr
   ·rename_i el cells ho
    split at hr
    ·rename_i ag sz ht
     have h1:=h.slots c;rw[hg] at h1;obtain⟨v,hv,hrep⟩:=Z8y (place_box h1 (h.inv.objs k _ ho)) ht hr;refine⟨v,?_,hrep⟩;show(do loadVar t (← asAddr (a.tmps.getD c undef)):Sem Value).run Γ.P w = .ok v w;generalize a.tmps.getD c undef=p at h1 hv ⊢;cases h1 with
     | ptr e=>simpa[asAddr,Instr.loadAt,Instr.sureAddr] using hv
    ·simp at hr
   ·simp at hr
  ·simp at hr
theorem run_resL {Γ:Ctx} {κ:Nat→Option KI} {I:Nat→Prop} {s:Z5} {a:Act} {w:World} (h:Rel Γ κ I s a w):∀ {l:List ResultVar} {rs:List AVal},resL Γ.P s l=some rs →
  ∃ vs:List Value,(l.mapM (resRun a.tmps)).run Γ.P w = .ok vs w ∧
   vs.length=rs.length∧∀ j (h:j<rs.length) (h':j<vs.length),Rep w I κ (rs[j]) (vs[j]):=by
 intro l
 induction l with
 | nil=>intro rs hr;obtain rfl:=Option.some.inj hr;exact⟨[],by simp,rfl,fun j h=>absurd h (Nat.not_lt_zero _)⟩
 | cons x l ih =>
  intro rs hr;simp only[resL] at hr;split at hr
  ·rename_i y l' h1 h2
   obtain rfl:=Option.some.inj hr;obtain⟨v,hv,hrep⟩:=run_resA h h1;obtain⟨vs,hvs,hlen,hreps⟩:=ih h2;refine⟨v::vs,?_,by simp[hlen],fun j h h' => ?_⟩
   ·rw[List.mapM_cons,Sem.run_bind,hv]
    simp only[Result.andThen_ok,Sem.run_bind,hvs,Sem.run_pure]
   ·cases j with
    | zero=>exact hrep
    | succ j=>exact hreps j (by simpa using h) (by simpa using h')
  ·simp at hr
theorem run_resOf {Γ:Ctx} {κ:Nat→Option KI} {I:Nat→Prop} {s:Z5} {a:Act} {w:World} (h:Rel Γ κ I s a w) {fn:Func} {r:AVal} (hr:resOf Γ.P fn s=some r) :
  ∃ v,(results fn a.tmps).run Γ.P w = .ok v w∧Rep w I κ r v:=by
 unfold resOf at hr;have key:∀ rs,resL Γ.P s fn.results.toList=some rs→∃ vs:List Value,(results fn a.tmps).run Γ.P w = .ok (if h:vs.toArray.size=1 then vs.toArray[0] else .tuple vs.toArray) w ∧
   vs.length=rs.length∧∀ j (h:j<rs.length) (h':j<vs.length),Rep w I κ (rs[j]) (vs[j]):=by
  intro rs hrs;obtain⟨vs,hvs,hlen,hreps⟩:=run_resL h hrs;refine⟨vs,?_,hlen,hreps⟩;rw[results_eq,Sem.run_bind,Array.mapM_eq_mapM_toList,Sem.run_map,hvs];rfl
 split at hr
 ·rename_i r' hrs
  obtain rfl:=Option.some.inj hr;obtain⟨vs,hvs,hlen,hreps⟩:=key _ hrs;obtain⟨v,rfl⟩:∃ v,vs=[v]:=by
   match vs,hlen with
   | [v],_=>exact⟨v,rfl⟩
  exact⟨v,by rw[hvs];rfl,hreps 0 (by simp) (by simp)⟩
 ·rename_i l hne hrs
  obtain rfl:=Option.some.inj hr;obtain⟨vs,hvs,hlen,hreps⟩:=key _ hrs;refine⟨.tuple vs.toArray,?_,.tup hlen hreps⟩;rw[hvs,dif_neg];intro e;simp only[List.size_toArray] at e
  match l,hlen with
  | [],hl=>rw[hl] at e;simp at e
  | [x],_=>exact hne x rfl
  | x::y::r,hl=>rw[hl] at e;simp at e
 ·simp at hr
def Z7j:List AVal→Nat→List (Nat×AVal)
 | [],_=>[]
 | x::r,i=>(i,x)::Z7j r (i+1)
theorem argSlots_look:∀ (l:List AVal) (i x:Nat),look (Z7j l i) x=if i≤x then l[x-i]? else none:=by
 intro l
 induction l with
 | nil=>intro i x;simp[Z7j,look]
 | cons y r ih =>
  intro i x;rw[Z7j,Z3g,ih];by_cases e:i=x
  ·subst e;simp
  ·rw[if_neg e]
   by_cases h:i≤x
   ·rw[if_pos h,if_pos (by omega)]
    obtain⟨m,rfl⟩:∃ m,x=i+1+m:=⟨x-(i+1),by omega⟩
    rw[show i+1+m-i=m+1 from by omega,show i+1+m-(i+1)=m from by omega];simp
   ·rw[if_neg h,if_neg (by omega)]
def retQ (P:Program) (fn:Func) (Q:AVal→List (Nat×Option MObj)→Prop) (floor:Nat) (e:Exit) (s:Z5):Prop :=
 (e = .ret∨e = .normal)∧s.floor=floor∧∃ r,resOf P fn s=some r∧Q r s.objs
theorem Fn.body {P:Program} {f:FuncId} {fn:Func} {c:Code} {args:List AVal} {objs:List (Nat×Option MObj)} {floor:Nat} {Q:AVal→List (Nat×Option MObj)→Prop}
  (hf:P.funcs[f]? = some fn) (hb:fn.body=some c) (hn:Nat.ble args.length fn.ntmps=true)
  (h:∀ Γ:Ctx,Γ.P=P→Γ.n=fn.ntmps→AWp Γ c (retQ P fn Q floor) ⟨Z7j args 0,objs,floor⟩):Fn P f args objs floor Q:=by
 intro κ I w vs hl hreps hinv;have hle:args.length≤fn.ntmps:=Nat.le_of_ble_eq_true hn;refine calls_of_wp hf hb ?_
 let Γ:Ctx:=Zah P fn.ntmps κ I ⟨[],objs,floor⟩ w
 have hsat:Sat Γ ⟨Z7j args 0,objs,floor⟩ { tmps:=vs.toArray++Array.replicate (fn.ntmps-vs.toArray.size) undef,defers:=[] } w:=by
  refine⟨κ,I,?_,rfl,fun x => ?_,⟨hinv.objs,hinv.inj,hinv.disj,hinv.bound,hinv.keep,hinv.ikeep,hinv.fromI,hinv.fromO,hinv.fix⟩⟩
  ·show(vs.toArray++Array.replicate (fn.ntmps-vs.toArray.size) undef).size=fn.ntmps
   simp[hl];omega
  ·show Rep w I κ ((look (Z7j      args 0) x).getD .top) _
   rw[argSlots_look,if_pos (Nat.zero_le _),Nat.sub_zero];by_cases hx:x<args.length
   ·rw[List.getElem?_eq_getElem hx]
    have:(vs.toArray++Array.replicate (fn.ntmps-vs.toArray.size) undef).getD x undef=vs[x]'(by omega):=by
     rw[Array.getD_eq_getD_getElem?,Array.getElem?_append_left (by simp;omega)];simp[hl,hx]
    rw[this];exact hreps x hx (by omega)
   ·rw[List.getElem?_eq_none (by omega)];exact .top _
 refine Code.wp_mono (fun e a' w' ⟨s',h1,h2⟩ => ?_) (h Γ rfl rfl _ _ hsat);obtain⟨he,hfl,r,hr,hq⟩:=h2;obtain⟨κ',I',hrel⟩:=h1;obtain⟨v,hv,hrep⟩:=run_resOf hrel hr;have hinv':Inv (Zah P 0 κ I ⟨[],objs,floor⟩ w) κ' I' ⟨[],s'.objs,floor⟩ w' :=
  ⟨hrel.inv.objs,hrel.inv.inj,hrel.inv.disj,hrel.inv.bound,hrel.inv.keep,hrel.inv.ikeep,hrel.inv.fromI,hrel.inv.fromO,fun k hk=>hrel.inv.fix k (by rw[hfl];exact hk)⟩
 rcases he with rfl | rfl
 ·exact⟨hrel.defers,v,hv,v,r,s'.objs,κ',I',rfl,hq,hrep,hinv'⟩
 ·exact⟨hrel.defers,v,hv,v,r,s'.objs,κ',I',rfl,hq,hrep,hinv'⟩
mutual
def pass (inv:List (Nat×Nat)) (views:List (Nat×List (List Im))):AVal→AVal
 | .own k=>match look views k with
  | some es=>.im (.row es)
  | none=>match look inv k with
   | some kc=>.own kc
   | none=>.top
 | .mown k=>match look inv k with
  | some kc=>.mown kc
  | none=>.top
 | .cut k lo n=>match look inv k with
  | some kc=>.cut kc lo n
  | none=>.top
 | .sub k lo n=>match look views k with
  | some es=>.im (.row ((es.drop lo).take n))
  | none=>match look inv k with
   | some kc=>.sub kc lo n
   | none=>.top
 | .ptr k e j=>match look inv k with
  | some kc=>.ptr kc e j
  | none=>.top
 | .agg l=>.agg (Zbk inv views l)
 | .tup l=>.tup (Zbk inv views l)
 | .fn g l=>.fn g (Zbk inv views l)
 | .top=>.top
 | .im x=>.im x
 | .none0=>.none0
 | .ip c=>.ip c
def Zbk (inv:List (Nat×Nat)) (views:List (Nat×List (List Im))):List AVal→List AVal
 | []=>[]
 | x::r=>pass inv views x::Zbk inv views r
end
theorem Zac (inv:List (Nat×Nat)) (views:List (Nat×List (List Im))):∀ l,Zbk inv views l=l.map (pass inv views)
 | []=>rfl
 | x::r=>by rw[Zbk,Zac inv views r,List.map_cons]
def Zfa (inv:List (Nat×Nat)) (views:List (Nat×List (List Im))):List (List AVal)→List (List AVal)
 | []=>[]
 | g::r=>Zbk inv views g::Zfa inv views r
theorem Ze6 (inv:List (Nat×Nat)) (views:List (Nat×List (List Im))):∀ l,Zfa inv views l=l.map (Zbk inv views)
 | []=>rfl
 | x::r=>by rw[Zfa,Ze6 inv views r,List.map_cons]
theorem ARow.tail {w w':World} {I I':Nat→Prop} {κ κ':Nat→Option KI} {ki:KI} {sz el:Nat} {es:List (List Im)} {fs fs':List (List AVal)} (h:ARow w I κ ki sz el (imL es++fs)) (hI:∀ b,I b→I' b) (hw:∀ b,I b→w'.heap[b]? = w.heap[b]?) (hl:fs'.length=fs.length)
  (hr:∀ i (h:i<fs.length) (h':i<fs'.length),(fs'[i]).length=(fs[i]).length∧∀ j (g:j<(fs[i]).length) (g':j<(fs'[i]).length) v,Rep w I κ ((fs[i])[j]) v→Rep w' I' κ' ((fs'[i])[j]) v)
  (hb:w'.heap[ki.b]? = w.heap[ki.b]?):ARow w' I' κ' ki sz el (imL es++fs'):=by
 refine h.imp (by simp[hl]) (fun i hi hi' => ?_) hb;by_cases hlt:i<(imL es).length
 ·have e1:(imL es++fs)[i]=(imL es)[i]:=List.getElem_append_left hlt
  have e2:(imL es++fs')[i]=(imL es)[i]:=List.getElem_append_left hlt;refine⟨by rw[e1,e2],fun j g g' v r => ?_⟩;simp only[e1,e2,imL_get] at r g g' ⊢;simp only[List.getElem_map] at r ⊢;cases r with
  | im r=>exact .im (r.mono hI hw)
 ·have e1:(imL es++fs)[i]=fs[i-(imL es).length]'(by simp at hi hlt ⊢;omega):=List.getElem_append_right (by omega)
  have e2:(imL es++fs')[i]=fs'[i-(imL es).length]'(by simp at hi' hlt ⊢;omega):=List.getElem_append_right (by omega);obtain⟨g1,g2⟩:=hr (i-(imL es).length) (by simp at hi hlt ⊢;omega) (by simp at hi' hlt ⊢;omega);refine⟨by rw[e1,e2];exact g1,fun j g g' v r => ?_⟩;simp only[e1,e2] at r g g' ⊢;exact g2 j g g' v r
def MObj.pass (inv:List (Nat×Nat)) (views:List (Nat×List (List Im))):MObj→MObj
 | .row sz el es=>.row sz el es
 | .box el cells=>.box el (Zbk inv views cells)
 | .map es=>.map es
 | .iter m n sn=>.iter (m.bind (look inv)) n sn
 | .arow sz el es fs=>.arow sz el es (Zfa inv views fs)
theorem Z4d {w:World} {I I':Nat→Prop} {κ κc:Nat→Option KI} {inv:List (Nat×Nat)} {views:List (Nat×List (List Im))} (hI:∀ b,I b→I' b)
  (hinv:∀ k kc,look inv k=some kc→κc kc=κ k) (hv:∀ k es,look views k=some es→(∃ sz el,OAt w I κ k (.row sz el es))∧∀ ki,κ k=some ki→I' ki.b) {x:AVal} {v:Value}
  (h:Rep w I κ x v):Rep w I' κc (pass inv views x) v:=by
 induction h with
 | top v=>exact .top v
 | im h=>exact .im (h.mono hI (fun _ _=>rfl))
 | none0 base=>exact .none0 base
 | @own0 k base e =>
  simp only[pass];cases e1:look views k with
  | some es =>
   obtain⟨⟨sz,el,ho⟩,_⟩:=hv k es e1;simp only[OAt,e] at ho;obtain⟨sz',el',ho⟩:=ho;simp only[MObj.row.injEq] at ho;obtain⟨_,_,rfl⟩:=ho;exact .im (.row0 base 0)
  | none =>
   dsimp only;cases e2:look inv k with
   | some kc=>exact .own0 base ((hinv _ _ e2).trans e)
   | none=>exact .top _
 | @own k ki e =>
  simp only[pass];cases e1:look views k with
  | some es =>
   obtain⟨⟨sz,el,ho⟩,hb⟩:=hv k es e1;simp only[OAt,e,ORep] at ho;obtain⟨h1,h2,h3,arr,h4,h5,h6⟩:=ho;refine .im (.row (sz:=sz) (fun i j=>arr[i*sz+j]?.getD undef) h2 (hb ki e) (by omega) (fun i h=>(h6 i h).1) (fun i j hi hj => ?_) (fun i h j h' => ?_))
   ·obtain⟨g1,g2⟩:=h6 i hi
    obtain⟨u,g3,g4⟩:=g2 j (by omega);rw[Z8n h4,Nat.zero_add];simp[g3]
   ·obtain⟨u,g3,g4⟩:=(h6 i h).2 j h'
    simp only[g3,Option.getD_some];exact g4.mono hI (fun _ _=>rfl)
  | none =>
   dsimp only;cases e2:look inv k with
   | some kc=>exact .own ((hinv _ _ e2).trans e)
   | none=>exact .top _
 | @mown k ki e =>
  simp only[pass];cases e2:look inv k with
  | some kc=>exact .mown ((hinv _ _ e2).trans e)
  | none=>exact .top _
 | @cut0 k base e =>
  simp only[pass];cases e2:look inv k with
  | some kc=>exact .cut0 base ((hinv _ _ e2).trans e)
  | none=>exact .top _
 | @cut k lo n off ki e h1 h2 =>
  simp only[pass];cases e2:look inv k with
  | some kc=>exact .cut ((hinv _ _ e2).trans e) h1 h2
  | none=>exact .top _
 | @sub0 k base e =>
  simp only[pass];cases e1:look views k with
  | some es =>
   exact .im (by rw[List.take_zero];exact .row0 base 0)
  | none =>
   dsimp only;cases e2:look inv k with
   | some kc=>exact .sub0 base ((hinv _ _ e2).trans e)
   | none=>exact .top _
 | @sub k lo n off ki e g1 g2 g3 =>
  simp only[pass];cases e1:look views k with
  | some es =>
   obtain⟨⟨sz,el,ho⟩,hb⟩:=hv k es e1;simp only[OAt,e,ORep] at ho;obtain⟨h1,h2,h3,arr,h4,h5,h6⟩:=ho;dsimp only;by_cases hn0:n=0
   ·subst hn0;rw[List.take_zero];exact .im (.row0 _ _)
   have hoff:off=lo*sz:=by
    rcases g1 with g1 | g1
    ·rw[g1,h1]
    ·omega
   subst hoff;have hlen:((es.drop lo).take n).length=n:=by rw[List.length_take,List.length_drop];omega
   have hget:∀ i (hi:i<((es.drop lo).take n).length),((es.drop lo).take n)[i]=es[lo+i]'(by omega):=fun i hi=>by rw[List.getElem_take,List.getElem_drop]
   refine .im (.row (sz:=sz) (fun i j=>arr[(lo+i)*sz+j]?.getD undef) hlen.symm (hb ki e) (by omega) (fun i h=>by rw[hget i h];exact(h6 (lo+i) (by omega)).1) (fun i j hi hj => ?_) (fun i h j h' => ?_))
   ·obtain⟨q1,q2⟩:=h6 (lo+i) (by omega)
    obtain⟨u,q3,q4⟩:=q2 j (by omega);rw[Z8n h4,show lo*sz+(i*sz+j)=(lo+i)*sz+j by rw[Nat.add_mul];omega];simp[q3]
   ·have h'':j<(es[lo+i]'(by omega)).length:=by rw[hget i h] at h';exact h'
    obtain⟨u,q3,q4⟩:=(h6 (lo+i) (by omega)).2 j h'';have e5:((es.drop lo).take n)[i][j]=(es[lo+i]'(by omega))[j]:=by congr 1;exact hget i h
    rw[e5];simp only[q3,Option.getD_some];exact q4.mono hI (fun _ _=>rfl)
  | none =>
   dsimp only;cases e2:look inv k with
   | some kc=>exact .sub ((hinv _ _ e2).trans e) g1 g2 g3
   | none=>exact .top _
 | @ptr k e j ki ek =>
  simp only[pass];cases e2:look inv k with
  | some kc=>exact .ptr ((hinv _ _ e2).trans ek)
  | none=>exact .top _
 | ip u hb hc hr=>exact .ip u (hI _ hb) hc (fun j h=>(hr j h).mono hI (fun _ _=>rfl))
 | agg hl hr ih=>simp only[pass,Zac];exact .agg (by simpa using hl) (fun j h h'=>by rw[List.getElem_map];exact ih j (by simpa using h) h')
 | tup hl hr ih=>simp only[pass,Zac];exact .tup (by simpa using hl) (fun j h h'=>by rw[List.getElem_map];exact ih j (by simpa using h) h')
 | fn hl hr ih=>simp only[pass,Zac];exact .fn (by simpa using hl) (fun j h h'=>by rw[List.getElem_map];exact ih j (by simpa using h) h')
theorem pass_obj {w:World} {I I':Nat→Prop} {κ κc:Nat→Option KI} {inv:List (Nat×Nat)} {views:List (Nat×List (List Im))} (hI:∀ b,I b→I' b)
  (hinv:∀ k kc,look inv k=some kc→κc kc=κ k) (hv:∀ k es,look views k=some es→(∃ sz el,OAt w I κ k (.row sz el es))∧∀ ki,κ k=some ki→I' ki.b) {k kc:Nat} {o:MObj}
  (hk:κc kc=κ k) (h:OAt w I κ k o):OAt w I' κc kc (o.pass inv views):=by
 unfold OAt at h ⊢;rw[hk];cases e:κ k with
 | none=>rw[e] at h;obtain⟨sz,el,rfl⟩:=h;exact⟨sz,el,rfl⟩
 | some ki =>
  rw[e] at h;cases o with
  | row sz el es =>
   obtain⟨h1,h2,h3,arr,h4,h5,h6⟩:=h;exact⟨h1,h2,h3,arr,h4,h5,fun i hi=>⟨(h6 i hi).1,fun j hj=>let ⟨u,a,b⟩:=(h6 i hi).2 j hj;⟨u,a,b.mono hI (fun _ _=>rfl)⟩⟩⟩
  | box el cells =>
   obtain⟨h1,h2,arr,h4,h5,h6⟩:=h;simp only[MObj.pass,Zac];refine⟨h1,by simpa using h2,arr,h4,by simpa using h5,fun j hj => ?_⟩;rw[List.length_map] at hj;obtain⟨u,a,b⟩:=h6 j hj;exact⟨u,a,by rw[List.getElem_map];exact Z4d hI hinv hv b⟩
  | map es =>
   obtain⟨arr,h1,h2,h3⟩:=h;exact⟨arr,h1,h2,fun i hi=>let ⟨e,g1,g2,g3,g4⟩:=h3 i hi;⟨e,g1,g2,g3,g4.mono hI (fun _ _=>rfl)⟩⟩
  | iter m n sn =>
   obtain⟨bm,h1,h2⟩:=h;refine⟨bm,h1,fun m' e => ?_⟩;cases m with
   | none=>simp at e
   | some m0 =>
    obtain⟨km,g1,g2⟩:=h2 m0 rfl;exact⟨km,(hinv m0 m' e).trans g1,g2⟩
  | arow sz el es fs =>
   show ARow w I' κc ki sz el (imL es++Zfa inv views fs);refine ARow.tail h hI (fun _ _=>rfl) (by rw[Ze6,List.length_map]) (fun i hi hi' => ?_) rfl;have e3:(Zfa inv views fs)[i]=(fs[i]).map (pass inv views):=by simp only[Ze6,List.getElem_map,Zac]
   refine⟨by rw[e3,List.length_map],fun j g g' v r => ?_⟩;simp only[e3,List.getElem_map];exact Z4d hI hinv hv r
def AVal.flat:AVal→Bool
 | .im (.sc _)=>true
 | .none0=>true
 | .top=>true
 | .tup l=>flatL l
 | .agg l=>flatL l
 | _=>false
where flatL:List AVal→Bool
 | []=>true
 | .im (.sc _)::r=>flatL r
 | .none0::r=>flatL r
 | .top::r=>flatL r
 | _=>false
theorem Z8w {w:World} {I:Nat→Prop} {κ:Nat→Option KI} {v:Value} (h:Rep w I κ .none0 v):∃ base,v = .slice base 0 0:=by
 cases h;exact⟨_,rfl⟩
def Zaw (l:List (Nat×Nat)):List (Nat×Nat):=l.map fun p=>(p.2,p.1)
def Zbu (s:Z5) (inv:List (Nat×Nat)) (views:List (Nat×List (List Im))):List (Nat×Option MObj) :=
 inv.map fun p=>(p.2,(s.obj p.1).map (MObj.pass inv views))
def isNil {α:Type}:List α→Bool
 | []=>true
 | _=>false
def Zby (inv out:List (Nat×Nat)) (r:AVal):Bool:=isNil out&&isNil inv&&r.flat
def vkills:Bool→List Nat→List (Nat×Option MObj)
 | true,_=>[]
 | false,vk=>vk.map fun k=>(k,none)
def Z9d (objs:Z5) (out:List (Nat×Nat)) (inv:List (Nat×Nat)) (vk:List Nat) (keep:Bool):List (Nat×Option MObj) :=
 (out.map fun p=>(p.2,(objs.obj p.1).map (MObj.pass out [])))++(inv.map fun p=>(p.1,none))++vkills keep vk
def Zaq (inv out:List (Nat×Nat)) (views:List (Nat×List (List Im))) (news:List Nat) (floor:Nat):Bool :=
 distinct (inv.map (·.1))&&distinct (inv.map (·.2))&&distinct (out.map (·.1))&&distinct (out.map (·.2))&&inv.all (fun p=>Nat.blt p.2 floor) &&
 out.all (fun p=>match Nat.blt p.1 floor with
  | true=>match look inv p.2 with
   | some kc=>Nat.beq kc p.1
   | none=>false
  | false=>isIn p.2 news)&&apart (inv.map (·.1)) (views.map (·.1))
where distinct:List Nat→Bool
 | []=>true
 | x::r => !(isIn x r)&&distinct r
theorem Zd5:∀ {l:List Nat},Zaq.distinct l=true↔l.Nodup:=by
 intro l
 induction l with
 | nil=>simp[Zaq.distinct]
 | cons x r ih =>
  have:isIn x r=false↔x ∉ r:=by rw[← Zae];simp
  simp[Zaq.distinct,ih,this]
theorem Z4e {α:Type} {l:List (Nat×α)} {k:Nat} {v:α} (h:look l k=some v):(k,v)∈l:=by
 induction l with
 | nil=>simp[look] at h
 | cons p l ih =>
  obtain⟨i,u⟩:=p;rw[Z3g] at h;by_cases e:i=k
  ·rw[if_pos e] at h;simp at h;simp[e,h]
  ·rw[if_neg e] at h;exact List.mem_cons_of_mem _ (ih h)
theorem Z57 {α:Type} {l:List (Nat×α)} (hn:(l.map (·.1)).Nodup) {k:Nat} {v:α} (h:(k,v)∈l):look l k=some v:=by
 induction l with
 | nil=>simp at h
 | cons p l ih =>
  obtain⟨i,u⟩:=p;simp only[List.map_cons,List.nodup_cons] at hn;rw[Z3g];rcases List.mem_cons.1 h with h | h
  ·simp at h;rw[if_pos h.1.symm,h.2]
  ·rw[if_neg,ih hn.2 h]
   rintro rfl;exact hn.1 (List.mem_map.2 ⟨_,h,rfl⟩)
def funOf (v:AVal):Option (Nat×List AVal) :=
 match v with
 | .im (.sc (.func (.func g) ⟨[]⟩ ⟨[]⟩))=>some (g,[])
 | .fn g caps=>some (g,caps)
 | _=>none
theorem funOf_rep {w:World} {I:Nat→Prop} {κ:Nat→Option KI} {x:AVal} {v:Value} {g:Nat} {caps:List AVal} (h:Rep w I κ x v) (hx:funOf x=some (g,caps)) :
  ∃ vs:List Value,v = .func (.func g) #[] vs.toArray∧vs.length=caps.length∧∀ j (h:j<caps.length) (h':j<vs.length),Rep w I κ (caps[j]) (vs[j]):=by
 unfold funOf at hx;split at hx
 ·simp at hx;obtain⟨rfl,rfl⟩:=hx
  exact⟨[],h.sc_inv,rfl,fun j h=>absurd h (Nat.not_lt_zero _)⟩
 ·simp at hx;obtain⟨rfl,rfl⟩:=hx
  cases h with
  | fn hl hr=>exact⟨_,rfl,hl,hr⟩
 ·simp at hx
mutual
def rowed:AVal→AVal
 | .none0=>.im (.row [])
 | .agg l=>.agg (rowedL l)
 | x=>x
def rowedL:List AVal→List AVal
 | []=>[]
 | x::r=>rowed x::rowedL r
end
theorem rowedL_eq:∀ l,rowedL l=l.map rowed
 | []=>rfl
 | x::r=>by rw[rowedL,rowedL_eq r,List.map_cons]
theorem rowed_rep {w:World} {I:Nat→Prop} {κ:Nat→Option KI} {x:AVal} {v:Value} (h:Rep w I κ x v):Rep w I κ (rowed x) v:=by
 induction h with
 | none0 base=>exact .im (.row0 base 0)
 | @agg cells vs hl hr ih =>
  simp only[rowed,rowedL_eq];refine .agg (by simpa using hl) (fun j h h' => ?_);rw[List.getElem_map];exact ih j (by simpa using h) h'
 | top v=>exact .top v
 | im h=>exact .im h
 | own0 base e=>exact .own0 base e
 | own e=>exact .own e
 | mown e=>exact .mown e
 | cut0 base e=>exact .cut0 base e
 | cut e h1 h2=>exact .cut e h1 h2
 | sub0 base e=>exact .sub0 base e
 | sub e h1 h2 h3=>exact .sub e h1 h2 h3
 | ptr e=>exact .ptr e
 | ip u hb hc hr=>exact .ip u hb hc hr
 | tup hl hr=>exact .tup hl hr
 | fn hl hr=>exact .fn hl hr
def Z70:AVal→Bool
 | .im (.sc _)=>true
 | .none0=>true
 | .top=>true
 | .own _=>true
 | .tup l=>flat2L l
 | .agg l=>flat2L l
 | _=>false
where flat2L:List AVal→Bool
 | []=>true
 | .im (.sc _)::r=>flat2L r
 | .none0::r=>flat2L r
 | .top::r=>flat2L r
 | .own _::r=>flat2L r
 | _=>false
theorem Zfg:∀ {l:List AVal},Z70.flat2L l=true→∀ j (h:j<l.length),(∃ v,l[j] = .im (.sc v))∨l[j] = .none0∨l[j] = .top∨∃ k,l[j] = .own k:=by
 intro l
 induction l with
 | nil=>intro _ j h;simp at h
 | cons x r ih =>
  intro hf j h;have:((∃ v,x = .im (.sc v))∨x = .none0∨x = .top∨∃ k,x = .own k)∧Z70.flat2L r=true:=by
   cases x with
   | im y=>cases y<;>simp[Z70.flat2L] at hf ⊢;exact hf
   | _=>simp[Z70.flat2L] at hf ⊢<;>exact hf
  cases j with
  | zero=>exact this.1
  | succ j=>exact ih this.2 j (by simpa using h)
theorem flat2_of {x:AVal} (h:x.flat=true):Z70 x=true:=by
 have key:∀ l,AVal.flat.flatL l=true→Z70.flat2L l=true:=by
  intro l
  induction l with
  | nil=>exact fun _=>rfl
  | cons x r ih =>
   intro hf;cases x with
   | im y=>cases y<;>simp[AVal.flat.flatL] at hf;simp[Z70.flat2L,ih hf]
   | none0=>simp[AVal.flat.flatL] at hf;simp[Z70.flat2L,ih hf]
   | top=>simp[AVal.flat.flatL] at hf;simp[Z70.flat2L,ih hf]
   | _=>simp[AVal.flat.flatL] at hf
 cases x with
 | im y=>cases y<;>simp[AVal.flat] at h;rfl
 | agg l=>exact key l h
 | tup l=>exact key l h
 | top=>rfl
 | none0=>rfl
 | _=>simp[AVal.flat] at h
theorem flat2_pass {inv:List (Nat×Nat)} {x:AVal} (h:Z70 x=true):Z70 (pass inv [] x)=true:=by
 have own:∀ k,pass inv [] (.own k) = .top∨∃ k',pass inv [] (.own k) = .own k':=by
  intro k;simp only[pass,look];cases look inv k with
  | none=>exact .inl rfl
  | some k'=>exact .inr ⟨k',rfl⟩
 have key:∀ l,Z70.flat2L l=true→Z70.flat2L (Zbk inv [] l)=true:=by
  intro l
  induction l with
  | nil=>exact fun _=>rfl
  | cons x r ih =>
   intro hf;cases x with
   | im y=>cases y<;>simp[Z70.flat2L] at hf;simp[Zbk,pass,Z70.flat2L,ih hf]
   | none0=>simp[Z70.flat2L] at hf;simp[Zbk,pass,Z70.flat2L,ih hf]
   | top=>simp[Z70.flat2L] at hf;simp[Zbk,pass,Z70.flat2L,ih hf]
   | own k =>
    simp[Z70.flat2L] at hf;rw[Zbk];rcases own k with e | ⟨k',e⟩<;>rw[e]<;>simp[Z70.flat2L,ih hf]
   | _=>simp[Z70.flat2L] at hf
 cases x with
 | im y=>exact h
 | agg l=>exact key l h
 | tup l=>exact key l h
 | top=>rfl
 | none0=>rfl
 | own k=>rcases own k with e | ⟨k',e⟩<;>rw[e]<;>rfl
 | _=>simp[Z70] at h
theorem flat2_rep {w:World} {I I':Nat→Prop} {κ:Nat→Option KI} {x:AVal} {v:Value} (h:Rep w I κ x v) (hf:Z70 x=true):Rep w I' κ x v:=by
 have own:∀ {k:Nat} {v:Value},Rep w I κ (.own k) v→Rep w I' κ (.own k) v:=by
  intro k v h;cases h with
  | own0 b e=>exact .own0 b e
  | own e=>exact .own e
 cases h with
 | top v=>exact .top v
 | im h=>cases h with
  | sc v=>exact .im (.sc v)
  | _=>simp[Z70] at hf
 | none0 b=>exact .none0 b
 | own0 b e=>exact .own0 b e
 | own e=>exact .own e
 | agg hl hr =>
  refine .agg hl (fun j h h' => ?_);have:=hr j h h';rcases Zfg hf j h with ⟨v,e⟩ | e | e | ⟨k,e⟩<;>rw[e] at this ⊢
  ·rw[this.sc_inv];exact .im (.sc v)
  ·obtain⟨base,e'⟩:=Z8w this;rw[e'];exact .none0 _
  ·exact .top _
  ·exact own this
 | tup hl hr =>
  refine .tup hl (fun j h h' => ?_);have:=hr j h h';rcases Zfg hf j h with ⟨v,e⟩ | e | e | ⟨k,e⟩<;>rw[e] at this ⊢
  ·rw[this.sc_inv];exact .im (.sc v)
  ·obtain⟨base,e'⟩:=Z8w this;rw[e'];exact .none0 _
  ·exact .top _
  ·exact own this
 | _=>simp[Z70] at hf
def ScObj (o:MObj):Prop:=∃ sz el es,o = .row sz el es∧∀ c∈es,∀ x∈c,∃ v,x = .sc v
theorem ok_callG {P:Program} {o:Oper} {s:Z5} {fo:Operand} {as:Array Operand} {ts:Array TypeId} {g:Nat} {caps:List AVal}
  (inv out:List (Nat×Nat)) (views:List (Nat×List (List Im))) (news:List Nat) (floor:Nat) {args':List AVal} {r:AVal} {objs':List (Nat×Option MObj)}
  (tr:AVal→AVal) (htr:∀ (w:World) (I:Nat→Prop) (κ:Nat→Option KI) (x:AVal) (v:Value),Rep w I κ x v→Rep w I κ (tr x) v) (ho:o.op = .call { callee:=.value fo,args:=as,argTypes:=ts }) (hfo:funOf (s.eval fo)=some (g,caps)) (henter:∀ (args:Array Value) (w:World),(callFunc g args).run P w = .ok (.enter g args) w) (hargs:args'=(as.toList.map s.eval++caps).map (fun x=>tr (pass inv views x)))
  (hviews:∀ p∈views,∃ sz el,s.obj p.1=some (.row sz el p.2)) (hlive:inv.all (fun p=>(s.obj p.1).isSome)=true) (hkeys:Zaq inv out views news floor=true)
  (hfn:Fn P g args' (Zbu s inv views) floor (fun r' o'=>r'=r∧o'=objs')) (keep:Bool) (hkc:keep=true→Z70 r=true∧∀ kc k o,(kc,k)∈out→(⟨[],objs',0⟩:Z5).obj kc=some o→ScObj o) :
  OpOK P o (mkSp s o (inv.map (·.1)++views.map (·.1)) news (pass out [] r) (Z9d ⟨[],objs',0⟩ out inv (views.map (·.1)) keep)):=by
 intro Γ hP hd s2 a w ⟨κ,I,hr⟩ hn hfresh K Q hK;have hevalfo:=hr.eval fo;rw[Z43 hn fo (by simp[ho,Op.operands,Call.operands])] at hevalfo;obtain⟨cvs,hfv,hclen,hcreps⟩:=funOf_rep hevalfo hfo;have hrun:(execOp a.eval o).run P w = .ok (.enter g ((as.toList.map a.eval++cvs).toArray)) w:=by
  simp only[execOp,ho,resolve,hfv,Deferred.ofValue,Sem.run_bind,Sem.run_pure,Result.andThen_ok,invoke];rw[henter];congr 2;rw[Array.empty_append,← Array.toList_inj];simp
 show o.upon P a K Q ((execOp a.eval o).run P w);rw[hrun];show Calls P g _ w _;simp only[Zaq,Bool.and_eq_true] at hkeys;obtain⟨⟨⟨⟨⟨⟨k1,k2⟩,k3⟩,k4⟩,k5⟩,k6⟩,k7⟩:=hkeys;rw[Zd5] at k1 k2 k3 k4;rw[Zc3] at k7;have hobj2:∀ k,k∈inv.map (·.1)++views.map (·.1)→s2.obj k=s.obj k:=fun k hk=>Z3m hn k hk
 have hk2':((Zaw inv).map (·.1)).Nodup:=by simpa[Zaw,Function.comp_def] using k2
 let κc:Nat→Option KI:=fun kc=>match look (Zaw inv) kc with
  | some k=>κ k
  | none=>none
 have hκc:∀ k kc,look inv k=some kc→κc kc=κ k:=by
  intro k kc h;have:look (Zaw inv) kc=some k:=Z57 hk2' (List.mem_map.2 ⟨(k,kc),Z4e h,rfl⟩);simp only[κc,this]
 let Ic:Nat→Prop:=fun b=>I b∨∃ k es ki,look views k=some es∧κ k=some ki∧ki.b=b
 have hIc:∀ b,I b→Ic b:=fun b h=>.inl h
 have hviewO:∀ k es,look views k=some es→∃ sz el,s2.obj k=some (.row sz el es):=by
  intro k es h;have hm:=Z4e h;obtain⟨sz,el,e⟩:=hviews _ hm;exact⟨sz,el,(hobj2 k (by simp only[List.mem_append];exact .inr (List.mem_map.2 ⟨_,hm,rfl⟩))).trans e⟩
 have hv:∀ k es,look views k=some es→(∃ sz el,OAt w I κ k (.row sz el es))∧∀ ki,κ k=some ki→Ic ki.b:=by
  intro k es h;obtain⟨sz,el,e⟩:=hviewO k es h;exact⟨⟨sz,el,hr.inv.objs k _ e⟩,fun ki hκ=>.inr ⟨k,es,ki,h,hκ,rfl⟩⟩
 have hinvO:∀ k kc,(k,kc)∈inv→∃ o,s2.obj k=some o∧s.obj k=some o:=by
  intro k kc hm;have:=List.all_eq_true.1 hlive _ hm;obtain⟨o,e⟩:=Option.isSome_iff_exists.1 this;exact⟨o,(hobj2 k (by simp only[List.mem_append];exact .inl (List.mem_map.2 ⟨_,hm,rfl⟩))).trans e,e⟩
 have hnotview:∀ k kc,(k,kc)∈inv→look views k=none:=by
  intro k kc hm;exact Zbn (fun h=>k7 k (List.mem_map.2 ⟨_,hm,rfl⟩) h)
 have hin:∀ kc o,(⟨[],Zbu s inv views,floor⟩:Z5).obj kc=some o→∃ k oc,look inv k=some kc∧(k,kc)∈inv∧s2.obj k=some oc∧o=oc.pass inv views:=by
  intro kc o h;simp only[Z5.obj] at h;cases e:look (Zbu s inv views) kc with
  | none=>rw[e] at h;simp at h
  | some ov =>
   rw[e] at h;have hm:=Z4e e;obtain⟨p,hp,hpe⟩:=List.mem_map.1 hm;simp only[Prod.mk.injEq] at hpe;obtain⟨rfl,rfl⟩:=hpe;obtain⟨oc,e1,e2⟩:=hinvO p.1 p.2 hp;rw[e2] at h;exact⟨p.1,oc,Z57 k1 hp,hp,e1,by simpa using h.symm⟩
 have hblock:∀ k o ki,s2.obj k=some o→κ k=some ki→ki.b<w.heap.size:=by
  intro k o ki e eκ;have:=hr.inv.objs k o e;simp only[OAt,eκ] at this;cases o with
  | row=>obtain⟨_,_,_,arr,h3,_⟩:=this;exact(Array.getElem?_eq_some_iff.1 h3).1
  | box=>obtain⟨_,_,arr,h3,_⟩:=this;exact(Array.getElem?_eq_some_iff.1 h3).1
  | map=>obtain⟨arr,h3,_⟩:=this;exact(Array.getElem?_eq_some_iff.1 h3).1
  | iter=>obtain⟨bm,h3,_⟩:=this;exact(Array.getElem?_eq_some_iff.1 h3).1
  | arow=>obtain⟨_,_,_,arr,h3,_⟩:=this;exact(Array.getElem?_eq_some_iff.1 h3).1
 have hentry:Inv (Zah P 0 κc Ic ⟨[],Zbu s inv views,floor⟩ w) κc Ic ⟨[],Zbu s inv views,floor⟩ w:=by
  refine⟨?_,?_,?_,?_,Zf6.refl _ _,fun _ h=>h,fun b h=>.inl h,?_,fun _ _=>rfl⟩
  ·intro kc o h
   obtain⟨k,oc,e1,e2,e3,rfl⟩:=hin kc o h;exact pass_obj hIc hκc hv (hκc k kc e1) (hr.inv.objs k oc e3)
  ·intro kc kc' o o' ki ki' h h' f f' hb
   obtain⟨k,oc,e1,e2,e3,rfl⟩:=hin kc o h;obtain⟨k',oc',e1',e2',e3',rfl⟩:=hin kc' o' h';rw[hκc k kc e1] at f;rw[hκc k' kc' e1'] at f';have:=hr.inv.inj k k' oc oc' ki ki' e3 e3' f f' hb;subst this;rw[e1] at e1';exact Option.some.inj e1'
  ·intro kc o ki h f hI
   obtain⟨k,oc,e1,e2,e3,rfl⟩:=hin kc o h;rw[hκc k kc e1] at f;rcases hI with hI | ⟨k',es,ki',h1,h2,h3⟩
   ·exact hr.inv.disj k oc ki e3 f hI
   ·obtain⟨sz,el,e4⟩:=hviewO k' es h1
    have:=hr.inv.inj k k' oc _ ki ki' e3 e4 f h2 h3.symm;subst this;rw[hnotview k kc e2] at h1;simp at h1
  ·intro b hI
   rcases hI with hI | ⟨k',es,ki',h1,h2,rfl⟩
   ·exact hr.inv.bound b hI
   ·obtain⟨sz,el,e4⟩:=hviewO k' es h1
    exact hblock k' _ ki' e4 h2
  ·intro kc o ki h f
   exact .inl ⟨kc,o,ki,h,f,rfl⟩
 have hM:∀ b,(∃ kc o ki,(⟨[],Zbu s inv views,floor⟩:Z5).obj kc=some o∧κc kc=some ki∧ki.b=b)→∃ k o ki,s2.obj k=some o∧κ k=some ki∧ki.b=b∧k∈inv.map (·.1):=by
  rintro b ⟨kc,o,ki,h,f,rfl⟩;obtain⟨k,oc,e1,e2,e3,rfl⟩:=hin kc o h;rw[hκc k kc e1] at f;exact⟨k,oc,ki,e3,f,rfl,List.mem_map.2 ⟨_,e2,rfl⟩⟩
 have hlenargs:(as.toList.map a.eval++cvs).length=args'.length:=by rw[hargs];simp[hclen]
 refine(hfn κc Ic w (as.toList.map a.eval++cvs) hlenargs (fun j h h' => ?_) hentry).mono ?_
 ·subst hargs
  rw[List.getElem_map];refine htr _ _ _ _ _ (Z4d hIc hκc hv ?_);simp only[List.length_map,List.length_append,Array.length_toList] at h;by_cases hj:j<as.size
  ·rw[List.getElem_append_left (by simpa using hj),List.getElem_append_left (by simpa using hj)]
   simp only[List.getElem_map,Array.getElem_toList];have:=hr.eval as[j]
   rwa [Z43 hn as[j] (by simp[ho,Op.operands,Call.operands])] at this
  ·rw[List.getElem_append_right (by simpa using hj),List.getElem_append_right (by simpa using hj)]
   simp only[List.length_map,Array.length_toList];have:=hcreps (j-as.size) (by omega) (by omega);exact this
 rintro e w' ⟨v,r0,objs0,κ',I',rfl,⟨rfl,rfl⟩,hrep,hout⟩;show K (a.put o.dst v) w';refine hK _ _ ?_;have hkeepb:∀ b,b<w.heap.size→(∀ k o ki,s2.obj k=some o→κ k=some ki→ki.b=b→k ∉ inv.map (·.1))→w'.heap[b]? = w.heap[b]? := by
  intro b hb hno;refine hout.keep.block b hb (fun hm => ?_);obtain⟨k,o,ki,e1,e2,e3,e4⟩:=hM b hm;exact hno k o ki e1 e2 e3 e4
 have hIkeep:∀ b,I b→w'.heap[b]? = w.heap[b]? := fun b hI=>hkeepb b (hr.inv.bound b hI) (fun k o ki e1 e2 e3=>absurd (e3 ▸ hI) (hr.inv.disj k o ki e1 e2))
 have hk3':(out.map (·.1)).Nodup:=k3;have hk4':((Zaw out).map (·.1)).Nodup:=by simpa[Zaw,Function.comp_def] using k4
 let κn:Nat→Option KI:=fun k=>match look (Zaw out) k with
  | some kc=>κ' kc
  | none=>κ k
 have hoc:∀ kc k',(kc,k')∈out→(kc<floor∧look inv k'=some kc)∨(floor≤kc∧k'∈news):=by
  intro kc k' hm;have:=List.all_eq_true.1 k6 _ hm;simp only at this;cases e:Nat.blt kc floor with
  | true =>
   rw[e] at this;cases e2:look inv k' with
   | none=>rw[e2] at this;simp at this
   | some kc' =>
    rw[e2] at this;exact .inl ⟨by simpa[Nat.blt_eq] using e,by rw[Nat.eq_of_beq_eq_true this]⟩
  | false =>
   rw[e] at this
   exact .inr ⟨Nat.le_of_not_lt (fun h => by have h' : Nat.blt kc floor = true := by simpa [Nat.blt_eq] using h
                                             rw[h'] at e;simp at e),Zae.1 this⟩
 have hκn_in:∀ kc k',(kc,k')∈out→κn k'=κ' kc:=by
  intro kc k' hm;have:look (Zaw out) k'=some kc:=Z57 hk4' (List.mem_map.2 ⟨(kc,k'),hm,rfl⟩);simp only[κn,this]
 have hκn_old:∀ k,k ∉ news→κn k=κ k:=by
  intro k hk;simp only[κn];cases e:look (Zaw out) k with
  | none=>rfl
  | some kc =>
   have hm:=Z4e e;obtain⟨p,hp,hpe⟩:=List.mem_map.1 hm;simp only[Prod.mk.injEq] at hpe;obtain⟨rfl,rfl⟩:=hpe;rcases hoc p.1 p.2 hp with ⟨h1,h2⟩ | ⟨_,h2⟩
   ·have h3:=hout.fix p.1 h1
    simp only;rw[h3];exact hκc p.2 p.1 h2
   ·exact absurd h2 hk
 have hκout:∀ kc k',look out kc=some k'→κn k'=κ' kc:=fun kc k' h=>hκn_in kc k' (Z4e h)
 let In:Nat→Prop:=fun b=>I b∨(keep=false∧I' b)
 have hIn:∀ b,I b→In b:=fun b h=>.inl h
 have hI'sub:∀ b,I b→I' b:=fun b h=>hout.ikeep b (hIc b h)
 have hres:Rep w' In κn (pass out [] r0) v:=by
  cases hcc:keep with
  | false=>exact Z4d (I:=I') (fun b h=>.inr ⟨hcc,h⟩) hκout (fun k es h=>by simp[look] at h) hrep
  | true =>
   have h1:=Z4d (inv:=out) (views:=[]) (I:=I') (I':=I') (fun b h=>h) hκout (fun k es h=>by simp[look] at h) hrep;exact flat2_rep h1 (flat2_pass (hkc hcc).1)
 have hobjn:∀ k o,(s2.objput (Z9d ⟨[],objs0,0⟩ out inv (views.map (·.1)) keep)).obj k=some o →
   (∃ kc oc,(kc,k)∈out∧(⟨[],objs0,floor⟩:Z5).obj kc=some oc∧o=oc.pass out [])∨(k ∉ out.map (·.2)∧(k ∉ inv.map (·.1)∧(keep=false→k ∉ views.map (·.1)))∧s2.obj k=some o):=by
  intro k o h;rw[Z5.obj_objput,Z9d,Z84,Z84] at h;cases e:look (out.map fun p=>(p.2,((⟨[],objs0,0⟩:Z5).obj p.1).map (MObj.pass out []))) k with
  | some ov =>
   rw[e] at h;have hm:=Z4e e;obtain⟨p,hp,hpe⟩:=List.mem_map.1 hm;simp only[Prod.mk.injEq] at hpe;obtain⟨rfl,rfl⟩:=hpe;simp only[Option.some_or,Option.getD_some,Option.map_eq_some_iff] at h;obtain⟨oc,e1,e2⟩:=h;exact .inl ⟨p.1,oc,hp,e1,e2.symm⟩
  | none =>
   rw[e] at h;have hno:k ∉ out.map (·.2):=by
    intro hm;obtain⟨p,hp,rfl⟩:=List.mem_map.1 hm;have hnd:((out.map fun p=>(p.2,((⟨[],objs0,0⟩:Z5).obj p.1).map (MObj.pass out []))).map (·.1)).Nodup:=by simpa[Function.comp_def] using k4
    rw[Z57 hnd (List.mem_map.2 ⟨p,hp,rfl⟩)] at e;simp at e
   cases e2:look (inv.map fun p=>(p.1,(none:Option MObj))) k with
   | some ov =>
    rw[e2] at h;have hm:=Z4e e2;obtain⟨p,hp,hpe⟩:=List.mem_map.1 hm;simp only[Prod.mk.injEq] at hpe;obtain⟨_,rfl⟩:=hpe;simp at h
   | none =>
    rw[e2] at h;have hni:k ∉ inv.map (·.1):=by
     intro hm;obtain⟨p,hp,rfl⟩:=List.mem_map.1 hm;have hnd:((inv.map fun p=>(p.1,(none:Option MObj))).map (·.1)).Nodup:=by simpa[Function.comp_def] using k1
     rw[Z57 hnd (List.mem_map.2 ⟨p,hp,rfl⟩)] at e2;simp at e2
    cases hcc:keep with
    | true=>rw[hcc] at h;exact .inr ⟨hno,⟨hni,fun e=>by simp at e⟩,by simpa[look,vkills] using h⟩
    | false =>
     rw[hcc] at h;simp only[vkills] at h;cases e3:look ((views.map (·.1)).map fun k=>(k,(none:Option MObj))) k with
     | some ov =>
      rw[e3] at h;obtain⟨p,hp,hpe⟩:=List.mem_map.1 (Z4e e3);simp only[Prod.mk.injEq] at hpe;obtain⟨_,rfl⟩:=hpe;simp at h
     | none =>
      rw[e3] at h;refine .inr ⟨hno,⟨hni,fun _ hm => ?_⟩,by simpa using h⟩;have:∀ l:List Nat,k∈l→look (l.map fun k=>(k,(none:Option MObj))) k=some none:=by
       intro l
       induction l with
       | nil=>intro h;simp at h
       | cons x r ih =>
        intro h;rw[List.map_cons,Z3g];by_cases ex:x=k
        ·rw[if_pos ex]
        ·rw[if_neg ex];exact ih ((List.mem_cons.1 h).resolve_left (fun e=>ex e.symm))
      rw[this _ hm] at e3;simp at e3
 have hfr:∀ k,k∈news→s2.fresh k:=hfresh
 have hold:∀ k o,s2.obj k=some o→k ∉ news:=fun k o h hk=>by have:=(hfr k hk).2.2.1;rw[this] at h;simp at h
 have hwhere:∀ kc oc ki,(⟨[],objs0,floor⟩:Z5).obj kc=some oc→κ' kc=some ki→(∃ k o ki',s2.obj k=some o∧κ k=some ki'∧ki'.b=ki.b∧k∈inv.map (·.1))∨w.heap.size≤ki.b:=by
  intro kc oc ki h1 h2;rcases hout.fromO kc oc ki h1 h2 with h | h
  ·exact .inl (hM _ h)
  ·exact .inr h
 have hinvn:Inv Γ κn In (s2.objput (Z9d ⟨[],objs0,0⟩ out inv (views.map (·.1)) keep)) w':=by
  refine⟨?_,?_,?_,?_,?_,fun b h=>.inl (hr.inv.ikeep b h),?_,?_,?_⟩
  ·intro k o h
   rcases hobjn k o h with ⟨kc,oc,hm,e1,rfl⟩ | ⟨n1,⟨n2,n3⟩,e1⟩
   ·cases hcc:keep with
    | false=>exact pass_obj (I:=I') (fun b h=>.inr ⟨hcc,h⟩) (fun kc k' h=>hκout kc k' h) (fun k es h=>by simp[look] at h) (hκn_in kc k hm) (hout.objs kc oc e1)
    | true =>
     have hsc:=(hkc hcc).2 kc k oc hm e1;have ho:=hout.objs kc oc e1;unfold OAt at ho ⊢;rw[hκn_in kc k hm];obtain⟨sz,el,es,rfl,hs⟩:=hsc;cases eκ:κ' kc with
     | none=>rw[eκ] at ho;exact⟨sz,el,by obtain⟨_,_,h⟩:=ho;simp only[MObj.row.injEq] at h;rw[h.2.2];rfl⟩
     | some ki =>
      rw[eκ] at ho;obtain⟨h1,h2,h3,arr,h4,h5,h6⟩:=ho;refine⟨h1,h2,h3,arr,h4,h5,fun i hi=>⟨(h6 i hi).1,fun j hj => ?_⟩⟩;obtain⟨u,a1,a2⟩:=(h6 i hi).2 j hj;obtain⟨x,ex⟩:=hs _ (List.getElem_mem hi) _ (List.getElem_mem hj);refine⟨u,a1,?_⟩;rw[ex] at a2 ⊢;cases a2;exact .sc _
   ·have hkn:κn k=κ k:=hκn_old k (hold k o e1)
    have:=hr.inv.objs k o e1;unfold OAt at this ⊢;rw[hkn];cases eκ:κ k with
    | none=>rw[eκ] at this;exact this
    | some ki =>
     rw[eκ] at this;refine this.mono hIn hIkeep (hkeepb _ (hblock k o ki e1 eκ) (fun k' o' ki' f1 f2 f3 => ?_)) (fun k' hk'=>hκn_old k' (fun hk'n=>by rw[(hfr k' hk'n).2.1 k o e1] at hk';simp at hk'));rw[← hr.inv.inj k' k o' o ki' ki f1 e1 f2 eκ f3] at n2;exact n2
  ·intro q1 q2 o1 o2 ki1 ki2 h1 h2 f1 f2 hbb
   rcases hobjn q1 o1 h1 with ⟨c1,oc1,m1,e1,rfl⟩ | ⟨n1,⟨n1',_⟩,e1⟩<;>rcases hobjn q2 o2 h2 with ⟨c2,oc2,m2,e2,rfl⟩ | ⟨n2,⟨n2',_⟩,e2⟩
   ·rw[hκn_in c1 q1 m1] at f1;rw[hκn_in c2 q2 m2] at f2
    have:=hout.inj c1 c2 oc1 oc2 ki1 ki2 e1 e2 f1 f2 hbb;subst this;have a1:=Z57 hk3' m1;have a2:=Z57 hk3' m2;rw[a1] at a2;exact Option.some.inj a2
   ·rw[hκn_in c1 q1 m1] at f1;rw[hκn_old q2 (hold q2 o2 e2)] at f2
    rcases hwhere c1 oc1 ki1 e1 f1 with ⟨k,o,ki',g1,g2,g3,g4⟩ | hge
    ·have:=hr.inv.inj k q2 o o2 ki' ki2 g1 e2 g2 f2 (g3.trans hbb)
     subst this;exact absurd g4 n2'
    ·have:=hblock q2 o2 ki2 e2 f2;omega
   ·rw[hκn_in c2 q2 m2] at f2;rw[hκn_old q1 (hold q1 o1 e1)] at f1
    rcases hwhere c2 oc2 ki2 e2 f2 with ⟨k,o,ki',g1,g2,g3,g4⟩ | hge
    ·have:=hr.inv.inj k q1 o o1 ki' ki1 g1 e1 g2 f1 (g3.trans hbb.symm)
     subst this;exact absurd g4 n1'
    ·have:=hblock q1 o1 ki1 e1 f1;omega
   ·rw[hκn_old q1 (hold q1 o1 e1)] at f1;rw[hκn_old q2 (hold q2 o2 e2)] at f2
    exact hr.inv.inj q1 q2 o1 o2 ki1 ki2 e1 e2 f1 f2 hbb
  ·intro k o ki h f hI
   rcases hobjn k o h with ⟨kc,oc,hm,e1,rfl⟩ | ⟨n1,⟨n2,n3⟩,e1⟩
   ·rw[hκn_in kc k hm] at f
    rcases hI with hI | ⟨_,hI⟩
    ·exact hout.disj kc oc ki e1 f (hI'sub _ hI)
    ·exact hout.disj kc oc ki e1 f hI
   ·rw[hκn_old k (hold k o e1)] at f
    rcases hI with hI | ⟨hcc,hI⟩
    ·exact hr.inv.disj k o ki e1 f hI
    ·rcases hout.fromI _ hI with h1 | h1 | h1
     ·rcases h1 with h1 | ⟨k',es,ki',h2,h3,h4⟩
      ·exact hr.inv.disj k o ki e1 f h1
      ·obtain⟨sz,el,e4⟩:=hviewO k' es h2
       have:=hr.inv.inj k k' o _ ki ki' e1 e4 f h3 h4.symm;subst this;exact n3 hcc (List.mem_map.2 ⟨_,Z4e h2,rfl⟩)
     ·obtain⟨k',o',ki',g1,g2,g3,g4⟩:=hM _ h1
      have:=hr.inv.inj k' k o' o ki' ki g1 e1 g2 f g3;subst this;exact n2 g4
     ·have:=hblock k o ki e1 f
      have:w.heap.size≤ki.b:=h1;omega
  ·intro b hI
   rcases hI with hI | ⟨_,hI⟩
   ·exact Nat.lt_of_lt_of_le (hr.inv.bound b hI) hout.keep.size
   ·exact hout.bound b hI
  ·refine hr.inv.keep.trans hout.keep (fun b hb hm => ?_)
   obtain⟨k,o,ki,e1,e2,rfl,_⟩:=hM b hm;rcases hr.inv.fromO k o ki e1 e2 with h | h
   ·exact h
   ·omega
  ·intro b hI
   rcases hI with hI | ⟨_,hI⟩
   ·exact hr.inv.fromI b hI
   ·rcases hout.fromI b hI with h1 | h1 | h1
    ·rcases h1 with h1 | ⟨k',es,ki',h2,h3,rfl⟩
     ·exact hr.inv.fromI b h1
     ·obtain⟨sz,el,e4⟩:=hviewO k' es h2
      exact .inr (hr.inv.fromO k' _ ki' e4 h3)
    ·obtain⟨k,o,ki,e1,e2,rfl,_⟩:=hM b h1
     exact .inr (hr.inv.fromO k o ki e1 e2)
    ·exact .inr (.inr (Nat.le_trans hr.inv.keep.size h1))
  ·intro k o ki h f
   rcases hobjn k o h with ⟨kc,oc,hm,e1,rfl⟩ | ⟨n1,⟨n2,_⟩,e1⟩
   ·rw[hκn_in kc k hm] at f
    rcases hwhere kc oc ki e1 f with ⟨k',o',ki',g1,g2,g3,g4⟩ | hge
    ·have:=hr.inv.fromO k' o' ki' g1 g2
     rwa [g3] at this
    ·exact .inr (Nat.le_trans hr.inv.keep.size hge)
   ·rw[hκn_old k (hold k o e1)] at f
    exact hr.inv.fromO k o ki e1 f
  ·intro k hk
   rw[hκn_old k (fun hkn=>by have h1:=(hfr k hkn).2.2.2;have h2:k<s2.floor:=hk;omega)];exact hr.inv.fix k hk
 have hslots:∀ x k,(s2.get x).has k=true→κn k=κ k:=fun x k hx=>hκn_old k (fun hkn=>by rw[(hfr k hkn).1 x] at hx;simp at hx)
 have hinv':Inv Γ κn In ((mkSp s o (inv.map (·.1)++views.map (·.1)) news (pass out [] r0) (Z9d ⟨[],objs0,0⟩ out inv (views.map (·.1)) keep)).act o.dst s2) w' :=
  hinvn.eqv (fun k o' hk=>by rwa [Sp.act,Z5.obj_put] at hk) (by cases hd':o.dst<;>simp[Sp.act,Z5.put,Z5.objput,hd'])
 cases hdst:o.dst with
 | none=>exact⟨κn,In,hr.size,hr.defers,fun x=>(hr.slots x).mono hIn hIkeep (hslots x),hdst ▸ hinv'⟩
 | some d =>
  have hlt:=hd d hdst;refine⟨κn,In,by simpa[Act.put] using hr.size,hr.defers,fun x => ?_,hdst ▸ hinv'⟩;show Rep w' In κn (((s2.objput (Z9d ⟨[],objs0,0⟩ out inv (views.map (·.1)) keep)).put (some d) (pass out [] r0)).get x) _;rw[Z5.get_put];by_cases e:d=x
  ·subst e
   rw[if_pos rfl];have:(a.put (some d) v).tmps.getD d undef=v:=by
    have hsz:d<a.tmps.size:=by rw[hr.size];exact hlt
    simp[Act.put,hsz]
   rw[this];exact hres
  ·rw[if_neg e]
   have:(a.put (some d) v).tmps.getD x undef=a.tmps.getD x undef:=by simp[Act.put,Array.getD_eq_getD_getElem?,Array.getElem?_setIfInBounds,e]
   rw[this];exact(hr.slots x).mono hIn hIkeep (hslots x)
theorem ok_call {P:Program} {o:Oper} {s:Z5} {fo:Operand} {as:Array Operand} {ts:Array TypeId} {g:Nat} {caps:List AVal}
  (inv out:List (Nat×Nat)) (views:List (Nat×List (List Im))) (news:List Nat) (floor:Nat) {args':List AVal} {r:AVal} {objs':List (Nat×Option MObj)}
  (tr:AVal→AVal) (htr:∀ (w:World) (I:Nat→Prop) (κ:Nat→Option KI) (x:AVal) (v:Value),Rep w I κ x v→Rep w I κ (tr x) v) (ho:o.op = .call { callee:=.value fo,args:=as,argTypes:=ts }) (hfo:funOf (s.eval fo)=some (g,caps)) (henter:∀ (args:Array Value) (w:World),(callFunc g args).run P w = .ok (.enter g args) w) (hargs:args'=(as.toList.map s.eval++caps).map (fun x=>tr (pass inv views x)))
  (hviews:∀ p∈views,∃ sz el,s.obj p.1=some (.row sz el p.2)) (hlive:inv.all (fun p=>(s.obj p.1).isSome)=true) (hkeys:Zaq inv out views news floor=true)
  (hfn:Fn P g args' (Zbu s inv views) floor (fun r' o'=>r'=r∧o'=objs')) :
  OpOK P o (mkSp s o (inv.map (·.1)++views.map (·.1)) news (pass out [] r) (Z9d ⟨[],objs',0⟩ out inv (views.map (·.1)) (Zby inv out r))):=by
 refine ok_callG inv out views news floor tr htr ho hfo henter hargs hviews hlive hkeys hfn (Zby inv out r) (fun h => ?_);simp only[Zby,Bool.and_eq_true] at h;have hnil:∀ {α:Type} {l:List α},isNil l=true→l=[]:=by intro α l h;cases l with | nil=>rfl | cons=>simp[isNil] at h
 exact⟨flat2_of h.2,fun kc k o hm=>by rw[hnil h.1.1] at hm;simp at hm⟩
end Go.Pv
set_option linter.unusedVariables false
set_option linter.unusedSimpArgs false
namespace Go.Pv
theorem opd {Γ:Ctx} {κ:Nat→Option KI} {I:Nat→Prop} {s s2:Z5} {a:Act} {w:World} {o:Oper} {keys news:List Nat} {res:AVal} {post:List (Nat×Option MObj)} (hr:Rel Γ κ I s2 a w)
  (hn:(mkSp s o keys news res post).needs s2) (x:Operand) (hx:x∈o.op.operands.toList) {y:AVal} (hy:s.eval x=y):Rep w I κ y (a.eval x):=by
 have:=hr.eval x
 rwa [Z43 hn x hx,hy] at this
def isPtr:AVal→Bool
 | .ptr .. => true
 | .ip _=>true
 | _=>false
theorem ok_nilCheck {P:Program} {o:Oper} {s:Z5} {x:Operand} {y:AVal} (ho:o.op = .nilCheck x) (hx:s.eval x=y) (hy:isPtr y=true) :
  OpOK P o (mkSp s o [] [] y []) :=
 .quiet rfl fun Γ κ I s2 a w hP hr hn=>by
  have h:=opd hr hn x (by simp[ho,Op.operands]) hx;refine⟨a.eval x,?_,h⟩;generalize ha:a.eval x=v at h;cases h<;>simp[isPtr] at hy<;>simp[execOp,ho,ha]
theorem ok_extract {P:Program} {o:Oper} {s:Z5} {x:Operand} {i:Nat} {l:List AVal} {y:AVal} (ho:o.op = .extract x i) (hx:s.eval x = .tup l) (hy:l[i]? = some y) :
  OpOK P o (mkSp s o [] [] y []) :=
 .quiet rfl fun Γ κ I s2 a w hP hr hn=>by
  have h:=opd hr hn x (by simp[ho,Op.operands]) hx;generalize ha:a.eval x=v at h;obtain⟨hi,rfl⟩:=List.getElem?_eq_some_iff.1 hy;cases h with
  | @tup _ vs hl hreps =>
   refine⟨vs[i]'(by omega),?_,hreps i hi (by omega)⟩;have:vs[i]? = some (vs[i]'(by omega)):=by simp
   simp[execOp,ho,ha,Instr.extract,this]
def Zd4 (P:Program) (t:TypeId) (f:Nat):Option (Nat×Bool×Nat) :=
 match P.underlying t with
 | some (.struct fs)=>match fs[f]? with
  | some f=>match aggP P f.type with
   | some (ag,sz)=>some (f.offset,ag,sz)
   | none=>none
  | none=>none
 | _=>none
theorem Zfh {P:Program} {t:TypeId} {f off sz:Nat} {ag:Bool} (h:Zd4 P t f=some (off,ag,sz)) :
  ∃ fs fl,P.underlying t=some (.struct fs)∧fs[f]? = some fl∧fl.offset=off∧aggP P fl.type=some (ag,sz):=by
 unfold Zd4 at h;split at h
 ·rename_i fs hu
  split at h
  ·rename_i fl hf
   split at h
   ·rename_i ag' sz' ha
    simp at h;obtain⟨rfl,rfl,rfl⟩:=h;exact⟨fs,fl,hu,hf,rfl,ha⟩
   ·simp at h
  ·simp at h
 ·simp at h
theorem Zdz {P:Program} {t:TypeId} {f off sz:Nat} {ag:Bool} (h:Zd4 P t f=some (off,ag,sz)) (h0:0<sz) (b o:Nat) (w:World) :
  (Instr.fieldAt t (.pointer (some ⟨b,o,none⟩)) f).run P w = .ok (.pointer (some ⟨b,o+off,none⟩)) w:=by
 obtain⟨fs,fl,h1,h2,rfl,h3⟩:=Zfh h;simp[Instr.fieldAt,Zp h1,h2,Instr.sureAddr,fieldPlace,Z27 h3,Z6z];omega
theorem Zdd {P:Program} {o:Oper} {s:Z5} {t:TypeId} {x:Operand} {f k e j off sz:Nat} {ag:Bool} (ho:o.op = .fieldAddr t x f) (hx:s.eval x = .ptr k e j)
  (hf:Zd4 P t f=some (off,ag,sz)) (h0:0<sz):OpOK P o (mkSp s o [] [] (.ptr k e (j+off)) []) :=
 .quiet rfl fun Γ κ I s2 a w hP hr hn=>by
  have h:=opd hr hn x (by simp[ho,Op.operands]) hx;generalize ha:a.eval x=v at h;cases h with
  | @ptr _ _ _ ki ek =>
   refine⟨.pointer (some ⟨ki.b,e*ki.sz+j+off,none⟩),by simp[execOp,ho,ha,Zdz hf h0],?_⟩;show Rep w I κ (.ptr k e (j+off)) _;rw[Nat.add_assoc];exact .ptr ek
theorem Zea {P:Program} {o:Oper} {s:Z5} {t:TypeId} {x:Operand} {f off sz:Nat} {cells:List Im} {ag:Bool} (ho:o.op = .fieldAddr t x f) (hx:s.eval x = .ip cells)
  (hf:Zd4 P t f=some (off,ag,sz)) (h0:0<sz):OpOK P o (mkSp s o [] [] (.ip (cells.drop off)) []) :=
 .quiet rfl fun Γ κ I s2 a w hP hr hn=>by
  have h:=opd hr hn x (by simp[ho,Op.operands]) hx;generalize ha:a.eval x=v at h;cases h with
  | @ip _ b of u hI hc hreps =>
   refine⟨.pointer (some ⟨b,of+off,none⟩),by simp[execOp,ho,ha,Zdz hf h0],?_⟩;refine .ip (fun i=>u (off+i)) hI (fun i hi => ?_) (fun i hi => ?_)
   ·simp only[List.length_drop] at hi
    rw[Nat.add_assoc];exact hc _ (by omega)
   ·rw[List.getElem_drop];exact hreps _ _
def Zek (ag:Bool) (off sz:Nat) (cells:List AVal):Option AVal :=
 match ag with
 | true=>match Nat.ble (off+sz) cells.length with
  | true=>some (.agg ((cells.drop off).take sz))
  | false=>none
 | false=>cells[off]?
theorem ok_field {P:Program} {o:Oper} {s:Z5} {t:TypeId} {x:Operand} {f off sz:Nat} {cells:List AVal} {ag:Bool} {r:AVal} (ho:o.op = .field t x f) (hx:s.eval x = .agg cells)
  (hf:Zd4 P t f=some (off,ag,sz)) (hr:Zek ag off sz cells=some r):OpOK P o (mkSp s o [] [] r []) :=
 .quiet rfl fun Γ κ I s2 a w hP hrel hn=>by
  have h:=opd hrel hn x (by simp[ho,Op.operands]) hx;generalize ha:a.eval x=v at h;obtain⟨fs,fl,h1,h2,rfl,h3⟩:=Zfh hf;cases h with
  | @agg _ vs hl hreps =>
   cases ag with
   | true =>
    simp only[Zek] at hr;cases hb:Nat.ble (fl.offset+sz) cells.length with
    | false=>rw[hb] at hr;simp at hr
    | true =>
     rw[hb] at hr;have hle:=Nat.le_of_ble_eq_true hb;obtain rfl:=Option.some.inj hr;refine⟨.agg ((vs.drop fl.offset).take sz).toArray,?_,.agg (by simp[hl]) (fun j h h' => ?_)⟩
     ·simp[execOp,ho,ha,Instr.field,Zp h1,h2,asAgg,part,Z8t h3,Z27 h3]
     ·simp only[List.length_take,List.length_drop] at h
      rw[List.getElem_take,List.getElem_drop,List.getElem_take,List.getElem_drop];exact hreps _ _ _
   | false =>
    simp only[Zek] at hr;obtain⟨hi,rfl⟩:=List.getElem?_eq_some_iff.1 hr;refine⟨vs[fl.offset]'(by omega),?_,hreps _ _ _⟩;have:vs[fl.offset]? = some (vs[fl.offset]'(by omega)):=by simp
    simp[execOp,ho,ha,Instr.field,Zp h1,h2,asAgg,part,Z8t h3,this]
def bt (s:ByteArray) (i:Int):Int:=((s.data[i.toNat]?).getD 0).toNat
theorem Ze8 {P:Program} {o:Oper} {s:Z5} {t:TypeId} {x i:Operand} {str:ByteArray} {k:IntKind} {n:Int} (ho:o.op = .index t x i) (ht:P.underlying t=some .string)
  (hx:s.eval x = .im (.sc (.string str))) (hi:s.eval i = .im (.sc (.int k n))) (h0:0≤n) (h1:n<(str.size:Int)):OpOK P o (mkSp s o [] [] (.im (.sc (.int .u8 (bt str n)))) []) :=
 ok_pure (.int .u8 (bt str n)) [(x,.string str),(i,.int k n)] (by simp[ho,Op.operands,hx,hi]) (fun ρ hρ w=>by
  have e1:=hρ (x,.string str) (by simp);have e2:=hρ (i,.int k n) (by simp);simp only at e1 e2;have hlt:n.toNat<str.size:=by omega
  have:(if 0≤n then str[n.toNat]? else none)=some (str[n.toNat]):=by rw[if_pos h0];simp[hlt]
  simp only[execOp,ho,e1,e2,Instr.index,asIntOf,pure_bind,Sem.run_bind,Zp ht,Result.andThen_ok,this,Sem.run_pure];simp[bt,hlt,ByteArray.getElem_eq_getElem_data])
theorem ok_len_string {P:Program} {o:Oper} {s:Z5} {x:Operand} {t:TypeId} {ts:Array TypeId} {str:ByteArray} (ho:o.op = .call { callee:=.builtin .len,args := #[x],argTypes:=ts })
  (hts:ts[0]? = some t) (ht:P.underlying t=some .string) (hx:s.eval x = .im (.sc (.string str))):OpOK P o (mkSp s o [] [] (.im (.sc (.int .i64 str.size))) []) :=
 ok_pure (.int .i64 str.size) [(x,.string str)] (by simp[ho,Op.operands,Call.operands,hx]) (fun ρ hρ w=>by
  have e1:=hρ (x,.string str) (by simp);simp only at e1;simp[execOp,ho,resolve,invoke,builtin,Builtin.len_,hts,e1,Zp ht,goInt])
def optV (y:Option Value) (n d:Int):Prop:=match y with
 | some v=>∃ k,v = .int k n
 | none=>n=d
def optA (s:Z5) (y:Option Operand) (n d:Int):Prop:=match y with
 | some x=>∃ k,s.eval x = .im (.sc (.int k n))
 | none=>n=d
theorem Z7c {P:Program} {k:IntKind} {i:Int} {y:Nat} (h0:0≤i) (h1:i≤y) (code:BoundsCode) (w:World):(Instr.sliceBound (.int k i) y code).run P w = .ok i.toNat w:=by
 simp only[Instr.sliceBound,asIntOf,pure_bind];rw[if_pos ⟨h0,h1⟩];rfl
theorem Z3w {P:Program} {isSlice:Bool} {len cap:Nat} {lo hi:Option Value} {l h:Int} (hl:optV lo l 0) (hh:optV hi h len) (h0:0≤l) (h1:l≤h) (h2:h≤(cap:Int)) (w:World) :
  (Instr.sliceBounds isSlice len cap lo hi none).run P w = .ok (l.toNat,h.toNat,cap) w:=by
 unfold Instr.sliceBounds;simp only[pure_bind];cases hi with
 | none =>
  simp only[optV] at hh;subst hh;cases lo with
  | none=>simp only[optV] at hl;subst hl;rfl
  | some v =>
   obtain⟨k,rfl⟩:=hl;simp only[Sem.run_bind,Z7c (P:=P) (k:=k) (i:=l) (y:=len) h0 h1,Result.andThen_ok,Sem.run_pure];rfl
 | some v =>
  obtain⟨k,rfl⟩:=hh;cases lo with
  | none =>
   simp only[optV] at hl;subst hl;simp only[Sem.run_bind,Z7c (P:=P) (k:=k) (i:=h) (y:=cap) (by omega) h2,Result.andThen_ok,Sem.run_pure];rfl
  | some v =>
   obtain⟨k',rfl⟩:=hl;simp only[Sem.run_bind,Z7c (P:=P) (k:=k) (i:=h) (y:=cap) (by omega) h2,Result.andThen_ok,Z7c (P:=P) (k:=k') (i:=l) (y:=h.toNat) h0 (by omega),Sem.run_pure]
theorem Zbw {s:Z5} {o:Oper} {t:TypeId} {x:Operand} {lo hi:Option Operand} (ho:o.op = .slice t x lo hi none):x∈o.op.operands.toList ∧
  (∀ y,lo=some y→y∈o.op.operands.toList)∧∀ y,hi=some y→y∈o.op.operands.toList:=by
 refine⟨by simp[ho,Op.operands],fun y e=>by subst e;simp[ho,Op.operands],fun y e=>by subst e;simp[ho,Op.operands]⟩
theorem Z7e {Γ:Ctx} {κ:Nat→Option KI} {I:Nat→Prop} {s s2:Z5} {a:Act} {w:World} {o:Oper} {keys news:List Nat} {res:AVal} {post:List (Nat×Option MObj)} (hr:Rel Γ κ I s2 a w)
  (hn:(mkSp s o keys news res post).needs s2) {y:Option Operand} {n d:Int} (hy:∀ z,y=some z→z∈o.op.operands.toList) (h:optA s y n d):optV (y.map a.eval) n d:=by
 cases y with
 | none=>exact h
 | some z =>
  obtain⟨k,hk⟩:=h;exact⟨k,(opd hr hn z (hy z rfl) hk).sc_inv⟩
theorem Ze7 {P:Program} {o:Oper} {s:Z5} {t:TypeId} {x:Operand} {lo hi:Option Operand} {str:ByteArray} (l h:Int) (ho:o.op = .slice t x lo hi none) (ht:P.underlying t=some .string)
  (hx:s.eval x = .im (.sc (.string str))) (hlo:optA s lo l 0) (hhi:optA s hi h str.size)
  (h0:0≤l) (h1:l≤h) (h2:h≤(str.size:Int)):OpOK P o (mkSp s o [] [] (.im (.sc (.string (str.extract l.toNat h.toNat)))) []) :=
 .quiet rfl fun Γ κ I s2 a w hP hr hn=>by
  obtain⟨m1,m2,m3⟩:=Zbw (s:=s) ho;have hv:=(opd hr hn x m1 hx).sc_inv;have hb:=Z3w (P:=P) (isSlice:=false) (len:=str.size) (cap:=str.size) (Z7e hr hn m2 hlo) (Z7e hr hn m3 hhi) h0 h1 h2 w;refine⟨.string (str.extract l.toNat h.toNat),?_,.im (.sc _)⟩;simp[execOp,ho,hv,Instr.sliceAt,Zp ht,Instr.slice,hb]
def Z94 (P:Program) (t:TypeId):Option (TypeId×Nat) :=
 match P.underlying t with
 | some (.slice e)=>match aggP P e with
  | some (_,sz)=>some (e,sz)
  | none=>none
 | _=>none
theorem Z5t {P:Program} {t e:TypeId} {sz:Nat} (h:Z94 P t=some (e,sz)):P.underlying t=some (.slice e)∧∃ ag,aggP P e=some (ag,sz):=by
 unfold Z94 at h;split at h
 ·rename_i e' hu
  split at h
  ·rename_i ag sz' ha
   simp at h;obtain⟨rfl,rfl⟩:=h;exact⟨hu,ag,ha⟩
  ·simp at h
 ·simp at h
theorem Zaz {P:Program} {t e:TypeId} {sz:Nat} (h:Z94 P t=some (e,sz)) {k:IntKind} {i:Int} {b off len cap:Nat} (h0:0≤i) (h1:i<len) (w:World) :
  (Instr.indexAt t (.slice (some ⟨b,off,none⟩) len cap) (.int k i)).run P w = .ok (.pointer (some ⟨b,off+i.toNat*sz,none⟩)) w:=by
 obtain⟨hu,ag,ha⟩:=Z5t h;simp only[Instr.indexAt,asIntOf,pure_bind,Sem.run_bind,Zp hu,Result.andThen_ok,Sem.run_pure];rw[if_pos ⟨h0,h1⟩];simp[Z27 ha,Z6z]
theorem Ze9 {P:Program} {o:Oper} {s:Z5} {t e:TypeId} {sz:Nat} {x i:Operand} {es:List (List Im)} {k:IntKind} {n:Int} (c:List Im) (ho:o.op = .indexAddr t x i)
  (ht:Z94 P t=some (e,sz)) (hx:s.eval x = .im (.row es)) (hi:s.eval i = .im (.sc (.int k n))) (h0:0≤n) (hc:es[n.toNat]? = some c) (hsz:c.length=sz) :
  OpOK P o (mkSp s o [] [] (.ip c) []) :=
 .quiet rfl fun Γ κ I s2 a w hP hr hn=>by
  have h1:=opd hr hn x (by simp[ho,Op.operands]) hx;have h2:=(opd hr hn i (by simp[ho,Op.operands]) hi).sc_inv;generalize ha:a.eval x=v at h1;obtain⟨hlt,rfl⟩:=List.getElem?_eq_some_iff.1 hc;cases h1 with
  | im h1 =>
   cases h1 with
   | row0 base cap=>simp at hlt
   | @row sz' _ b off nn cap u hnn hI hl hs hcells hreps =>
    have hss:sz'=sz:=by rw[← hs _ hlt,hsz]
    subst hss;have hrun:=Zaz (P:=P) ht (k:=k) (i:=n) (b:=b) (off:=off) (len:=nn) (cap:=cap) h0 (by omega) w;refine⟨.pointer (some ⟨b,off+n.toNat*sz',none⟩),by simp[execOp,ho,ha,h2,hrun],?_⟩;refine .ip (fun j=>u n.toNat j) hI (fun j hj => ?_) (fun j hj=>hreps _ hlt j hj);rw[Nat.add_assoc];exact hcells _ j hlt (by omega)
theorem Zdc {P:Program} {o:Oper} {s:Z5} {t e:TypeId} {sz:Nat} {x i:Operand} {es:List (List Im)} {key el:Nat} {k:IntKind} {n:Int} (ho:o.op = .indexAddr t x i)
  (ht:Z94 P t=some (e,sz)) (hx:s.eval x = .own key) (hk:s.obj key=some (.row sz el es)) (hi:s.eval i = .im (.sc (.int k n))) (h0:0≤n) (h1:n<(es.length:Int)) :
  OpOK P o (mkSp s o [key] [] (.ptr key n.toNat 0) []) :=
 .quiet rfl fun Γ κ I s2 a w hP hr hn=>by
  have g1:=opd hr hn x (by simp[ho,Op.operands]) hx;have g2:=(opd hr hn i (by simp[ho,Op.operands]) hi).sc_inv;have g3:=Zd1 hr.inv ((Z3m hn key (by simp)).trans hk);generalize ha:a.eval x=v at g1;cases g1 with
  | own0 base eκ=>simp only[OAt,eκ] at g3;obtain⟨_,_,e'⟩:=g3;simp at e';obtain⟨_,_,rfl⟩:=e';simp at h1;omega
  | @own _ ki eκ =>
   simp only[OAt,eκ,ORep] at g3;obtain⟨c1,c2,c3,_⟩:=g3;have hrun:=Zaz (P:=P) ht (k:=k) (i:=n) (b:=ki.b) (off:=0) (len:=ki.len) (cap:=ki.cap) h0 (by omega) w;refine⟨.pointer (some ⟨ki.b,0+n.toNat*sz,none⟩),by simp[execOp,ho,ha,g2,hrun],?_⟩;have:=Rep.ptr (w:=w) (I:=I) (e:=n.toNat) (j:=0) eκ;rw[c1] at this;simpa[mkSp] using this
theorem Zbj {P:Program} {t e:TypeId} (hu:P.underlying t=some (.slice e)) (ty:TypeId) (base:Option Addr) (n c:Nat) (w:World) (ts:Array TypeId) (hts:ts[0]? = some t) :
  (Builtin.len_ ts ty #[.slice base n c]).run P w = .ok (.int .i64 n) w:=by
 simp[Builtin.len_,hts,Zp hu,goInt]
theorem Z9y {P:Program} {o:Oper} {s:Z5} {x:Operand} {t e:TypeId} {ts:Array TypeId} {y:AVal} (n:Nat) (keys:List Nat) (ho:o.op = .call { callee:=.builtin .len,args := #[x],argTypes:=ts })
  (hts:ts[0]? = some t) (hu:P.underlying t=some (.slice e)) (hx:s.eval x=y)
  (hy:(∃ es,y = .im (.row es)∧n=es.length)∨(y = .none0∧n=0)∨(∃ k lo,y = .cut k lo n)∨∃ k sz el es,y = .own k∧k∈keys∧s.obj k=some (.row sz el es)∧n=es.length) :
  OpOK P o (mkSp s o keys [] (.im (.sc (.int .i64 n))) []) :=
 .quiet rfl fun Γ κ I s2 a w hP hr hn=>by
  have g1:=opd hr hn x (by simp[ho,Op.operands,Call.operands]) hx;have:∃ base c,a.eval x = .slice base n c:=by
   rcases hy with ⟨es,rfl,rfl⟩ | ⟨rfl,rfl⟩ | ⟨k,lo,rfl⟩ | ⟨k,sz,el,es,rfl,hk,ho,rfl⟩
   ·generalize a.eval x=v at g1
    cases g1 with
    | im h=>cases h with
     | row0 base cap=>exact⟨_,_,rfl⟩
     | row u hnn=>subst hnn;exact⟨_,_,rfl⟩
   ·obtain⟨base,e⟩:=Z8w g1;exact⟨base,0,e⟩
   ·generalize a.eval x=v at g1
    cases g1 with
    | cut0=>exact⟨_,_,rfl⟩
    | cut=>exact⟨_,_,rfl⟩
   ·have g3:=Zd1    hr.inv ((Z3m       hn k hk).trans ho)
    generalize a.eval x=v at g1;cases g1 with
    | own0 base eκ=>simp only[OAt,eκ] at g3;obtain⟨_,_,e'⟩:=g3;simp at e';obtain⟨_,_,rfl⟩:=e';exact⟨_,_,rfl⟩
    | @own _ ki eκ =>
     simp only[OAt,eκ,ORep] at g3;obtain⟨c1,c2,c3,_⟩:=g3;rw[← c2];exact⟨_,_,rfl⟩
  obtain⟨base,c,e⟩:=this;refine⟨.int .i64 n,?_,.im (.sc _)⟩;simp[execOp,ho,resolve,invoke,builtin,e,Zbj hu _ _ _ _ _ ts hts]
theorem ok_slice_im {P:Program} {o:Oper} {s:Z5} {t e:TypeId} {sz:Nat} {x:Operand} {lo hi:Option Operand} {es:List (List Im)} (l h:Int) (ho:o.op = .slice t x lo hi none) (ht:Z94 P t=some (e,sz))
  (hx:s.eval x = .im (.row es)) (hlo:optA s lo l 0) (hhi:optA s hi h es.length) (h0:0≤l) (h1:l≤h) (h2:h≤(es.length:Int)) (hsz:∀ c∈es,c.length=sz) :
  OpOK P o (mkSp s o [] [] (.im (.row ((es.drop l.toNat).take (h.toNat-l.toNat)))) []) :=
 .quiet rfl fun Γ κ I s2 a w hP hr hn=>by
  obtain⟨m1,m2,m3⟩:=Zbw (s:=s) ho;have g1:=opd hr hn x m1 hx;obtain⟨hu,ag,hag⟩:=Z5t ht;have q1:=Z7e hr hn m2 hlo;have q2:=Z7e hr hn m3 hhi;generalize ha:a.eval x=v at g1;cases g1 with
  | im g1 =>
   cases g1 with
   | row0 base cap =>
    simp only[List.length_nil] at h2;have hb:=Z3w (P:=P) (isSlice:=true) (len:=0) (cap:=cap) q1 q2 h0 h1 (by omega) w;have e1:l.toNat=0:=by omega
    have e2:h.toNat=0:=by omega
    refine⟨.slice (if cap=0 then base else base.map (·.add (0*sz))) 0 cap,?_,.im (by simpa using IRep.row0 _ _)⟩;simp[execOp,ho,ha,Instr.sliceAt,Zp hu,Instr.slice,hb,Z27 hag,e1,e2]
   | @row sz' _ b off nn cap u hnn hI hl hs hcells hreps =>
    have hb:=Z3w (P:=P) (isSlice:=true) (len:=nn) (cap:=cap) q1 (by rw[hnn];exact q2) h0 h1 (by omega) w;refine⟨.slice (some (if cap=l.toNat then⟨b,off,none⟩ else⟨b,off+l.toNat*sz,none⟩)) (h.toNat-l.toNat) (cap-l.toNat),?_,.im ?_⟩
    ·simp[execOp,ho,ha,Instr.sliceAt,Zp              hu,Instr.slice,hb,Z27         hag]
     split<;>simp[Z6z]
    ·have hlen:((es.drop l.toNat).take (h.toNat-l.toNat)).length=h.toNat-l.toNat:=by simp;omega
     by_cases hne:h.toNat-l.toNat=0
     ·have:(es.drop l.toNat).take (h.toNat-l.toNat)=[]:=by rw[hne];simp
      rw[this,hne];exact .row0 _ _
     ·rw[if_neg (by omega)]
      have hss:sz'=sz:=by rw[← hs 0 (by omega)];exact hsz _ (List.getElem_mem _)
      subst hss;refine .row (sz:=sz') (fun i j=>u (l.toNat+i) j) hlen.symm hI (by omega) (fun i hi => ?_) (fun i j hi hj => ?_) (fun i hi j hj => ?_)
      ·rw[List.getElem_take,List.getElem_drop];exact hs _ _
      ·have:=hcells (l.toNat+i) j (by omega) hj
       rw[Nat.add_mul] at this
       rwa [show off+l.toNat*sz'+(i*sz'+j)=off+(l.toNat*sz'+i*sz'+j) from by omega]
      ·simp only[List.getElem_take,List.getElem_drop] at hj ⊢
       exact hreps _ _ _ hj
end Go.Pv
set_option linter.unusedVariables false
set_option linter.unusedSimpArgs false
namespace Go.Pv
structure Flat (w:World) (I:Nat→Prop) (sz:Nat) (es:List (List Im)) (vs:List Value):Prop where
 len:vs.length=es.length*sz
 el:∀ i (h:i<es.length),(es[i]).length=sz
 at_:∀ i (h:i<es.length) j (h':j<(es[i]).length),∃ v,vs[i*sz+j]? = some v∧IRep w I ((es[i])[j]) v
theorem Z8z {i j n sz:Nat} (hi:i<n) (hj:j<sz):i*sz+j<n*sz:=by
 have:(i+1)*sz≤n*sz:=Nat.mul_le_mul_right _ hi;rw[Nat.add_mul] at this;omega
theorem Flat.append {w:World} {I:Nat→Prop} {sz:Nat} {es fs:List (List Im)} {us vs:List Value} (h:Flat w I sz es us) (h':Flat w I sz fs vs):Flat w I sz (es++fs) (us++vs):=by
 refine⟨by simp[h.len,h'.len,Nat.add_mul],fun i hi => ?_,fun i hi j hj => ?_⟩
 ·by_cases hlt:i<es.length
  ·rw[List.getElem_append_left hlt];exact h.el i hlt
  ·rw[List.getElem_append_right (by omega)];exact h'.el _ _
 ·by_cases hlt:i<es.length
  ·simp only[List.getElem_append_left hlt] at hj ⊢
   obtain⟨v,e,r⟩:=h.at_ i hlt j hj;have hjs:j<sz:=by rw[← h.el i hlt];exact hj
   exact⟨v,by rw[List.getElem?_append_left (by rw[h.len];exact Z8z hlt hjs)];exact e,r⟩
  ·simp only[List.getElem_append_right (Nat.le_of_not_lt hlt)] at hj ⊢
   simp only[List.length_append] at hi;obtain⟨v,e,r⟩:=h'.at_ (i-es.length) (by omega) j hj;refine⟨v,?_,r⟩;rw[List.getElem?_append_right (by rw[h.len];have:=Nat.mul_le_mul_right sz (Nat.le_of_not_lt hlt);omega),h.len];rw[show i*sz+j-es.length*sz=(i-es.length)*sz+j from by rw[Nat.sub_mul];have:=Nat.mul_le_mul_right sz (Nat.le_of_not_lt hlt);omega];exact e
theorem Flat.mono {w w':World} {I I':Nat→Prop} {sz:Nat} {es:List (List Im)} {vs:List Value} (h:Flat w I sz es vs) (hI:∀ b,I b→I' b) (hw:∀ b,I b→w'.heap[b]? = w.heap[b]?) :
  Flat w' I' sz es vs:=⟨h.len,h.el,fun i hi j hj=>let ⟨v,e,r⟩:=h.at_ i hi j hj;⟨v,e,r.mono hI hw⟩⟩
inductive Src (s:Z5) (keys:List Nat):AVal→List (List Im)→Prop
 | im (es:List (List Im)):Src s keys (.im (.row es)) es
 | none0:Src s keys .none0 []
 | own (k sz el:Nat) (es:List (List Im)) (hk:k∈keys) (ho:s.obj k=some (.row sz el es)):Src s keys (.own k) es
theorem row_flat {w:World} {I:Nat→Prop} {κ:Nat→Option KI} {k sz el:Nat} {es:List (List Im)} {ki:KI} (ho:OAt w I κ k (.row sz el es)) (hκ:κ k=some ki) :
  ∃ arr:Array Value,w.heap[ki.b]? = some (.cells arr el (0,0))∧arr.size=ki.cap*sz∧ki.len=es.length∧ki.sz=sz∧es.length≤ki.cap∧Flat w I sz es (arr.toList.take (es.length*sz)):=by
 simp only[OAt,hκ,ORep] at ho;obtain⟨h1,h2,h3,arr,h4,h5,h6⟩:=ho;have hle:es.length*sz≤arr.size:=by rw[h5];exact Nat.mul_le_mul_right _ h3
 refine⟨arr,h4,h5,h2,h1,h3,by simp;omega,fun i hi=>(h6 i hi).1,fun i hi j hj => ?_⟩;obtain⟨v,e,r⟩:=(h6 i hi).2 j hj;have hjs:j<sz:=by rw[← (h6 i hi).1];exact hj
 refine⟨v,?_,r⟩;rw[List.getElem?_take,if_pos (Z8z hi hjs)];simpa using e
theorem src_cells {P:Program} {Γ:Ctx} {κ:Nat→Option KI} {I:Nat→Prop} {s s2:Z5} {w:World} {keys:List Nat} {x:AVal} {v:Value} {es:List (List Im)} {sz:Nat}
  (hinv:Inv Γ κ I s2 w) (hobj:∀ k∈keys,s2.obj k=s.obj k) (hs:Src s keys x es) (h:Rep w I κ x v) (hsz:∀ c∈es,c.length=sz) (hksz:∀ k sz' el es',x = .own k→s.obj k=some (.row sz' el es')→sz'=sz) :
  ∃ base cap vs,v = .slice base es.length cap∧Flat w I sz es vs∧∀ w2:World,w2.heap=w.heap→(Builtin.firstCells sz es.length v).run P w2 = .ok vs.toArray w2:=by
 have hcell2:∀ (w2:World),w2.heap=w.heap→∀ a,w2.cell? a=w.cell? a:=fun w2 h a=>by unfold World.cell?;rw[h]
 cases hs with
 | none0 =>
  obtain⟨base,rfl⟩:=Z8w h;refine⟨base,0,[],rfl,⟨by simp,fun i h=>absurd h (Nat.not_lt_zero _),fun i h=>absurd h (Nat.not_lt_zero _)⟩,fun w2 hw2 => ?_⟩;cases base with
  | none=>simp[Builtin.firstCells]
  | some a=>simp[Builtin.firstCells,loadCells,loadCellsFrom]
 | im es =>
  cases h with
  | im h =>
   cases h with
   | row0 base cap =>
    refine⟨base,cap,[],rfl,⟨by simp,fun i h=>absurd h (Nat.not_lt_zero _),fun i h=>absurd h (Nat.not_lt_zero _)⟩,fun w2 hw2 => ?_⟩;cases base with
    | none=>simp[Builtin.firstCells]
    | some a=>simp[Builtin.firstCells,loadCells,loadCellsFrom]
   | @row sz' _ b off nn cap u hnn hI hl hs hcells hreps =>
    subst hnn;refine⟨_,cap,(List.range (es.length*sz)).map fun m=>(w.cell? ⟨b,off+m,none⟩).getD undef,rfl,⟨by simp,fun i h=>hsz _ (List.getElem_mem h),fun i hi j hj => ?_⟩,fun w2 hw2 => ?_⟩
    ·have h1:sz'=sz:=by rw[← hs i hi];exact hsz _ (List.getElem_mem hi)
     subst h1;have hjs:j<sz':=by rw[← hs i hi];exact hj
     refine⟨u i j,?_,hreps i hi j hj⟩;rw[List.getElem?_map,List.getElem?_range (Z8z hi hjs)];simp[hcells i j hi hjs]
    ·simp only[Builtin.firstCells]
     refine Z60 (fun m hm => ?_);rw[hcell2 w2 hw2];have hsz0:0<sz:=by
      rcases Nat.eq_zero_or_pos sz with h0 | h0
      ·rw[h0,Nat.mul_zero] at hm;omega
      ·exact h0
     have hi:m / sz<es.length:=by rw[Nat.div_lt_iff_lt_mul hsz0];exact hm
     have hj:m % sz<sz:=Nat.mod_lt _ hsz0;have h1:sz'=sz:=by rw[← hs _ hi];exact hsz _ (List.getElem_mem hi)
     subst h1;have:=hcells (m / sz') (m % sz') hi hj;rw[show m / sz'*sz'+m % sz'=m from by rw[Nat.mul_comm];exact Nat.div_add_mod m sz'] at this;rw[this];rfl
 | own k sz' el es hk ho =>
  have ho2:=hinv.objs k _ ((hobj k hk).trans ho);obtain rfl:=hksz k sz' el es rfl ho;cases h with
  | own0 base e =>
   simp only[OAt,e] at ho2;obtain⟨_,_,e'⟩:=ho2;simp at e';obtain⟨_,_,rfl⟩:=e';refine⟨base,0,[],rfl,⟨by simp,fun i h=>absurd h (Nat.not_lt_zero _),fun i h=>absurd h (Nat.not_lt_zero _)⟩,fun w2 hw2 => ?_⟩;cases base with
   | none=>simp[Builtin.firstCells]
   | some a=>simp[Builtin.firstCells,loadCells,loadCellsFrom]
  | @own _ ki e =>
   obtain⟨arr,h1,h2,h3,h4,h5,hfl⟩:=row_flat ho2 e;refine⟨_,ki.cap,_,by rw[h3],hfl,fun w2 hw2 => ?_⟩;simp only[Builtin.firstCells];have hle:es.length*sz'≤arr.size:=by rw[h2];exact Nat.mul_le_mul_right _ h5
   rw[Z60 (u:=fun m=>arr[m]?.getD undef) (fun m hm=>by
    have:m<arr.size:=by omega
    rw[hcell2 w2 hw2,Z8n h1,Nat.zero_add];simp[this])]
   congr 2;apply List.ext_getElem?;intro m;rw[List.getElem?_map,List.getElem?_take];by_cases hm:m<es.length*sz'
   ·rw[List.getElem?_range hm,if_pos hm]
    have:m<arr.size:=by omega
    simp[this]
   ·rw[if_neg hm,List.getElem?_eq_none (by rw[List.length_range];omega)];rfl
theorem Zam (z:Array Value) (n:Nat):(Builtin.zeroCells z n).size=n*z.size:=by simp[Builtin.zeroCells]
theorem ORep.ofFlat {w:World} {I:Nat→Prop} {κ:Nat→Option KI} {ki:KI} {sz el:Nat} {es:List (List Im)} {vs rest:List Value} (hb:w.heap[ki.b]? = some (.cells (vs++rest).toArray el (0,0)))
  (h:Flat w I sz es vs) (hsz:ki.sz=sz) (hlen:ki.len=es.length) (hcap:es.length≤ki.cap) (hall:(vs++rest).length=ki.cap*sz):ORep w I κ ki (.row sz el es):=by
 refine⟨hsz,hlen,hcap,(vs++rest).toArray,hb,by simpa using hall,fun i hi=>⟨h.el i hi,fun j hj => ?_⟩⟩;obtain⟨v,e,r⟩:=h.at_ i hi j hj;have hjs:j<sz:=by rw[← h.el i hi];exact hj
 refine⟨v,?_,r⟩;simp only[List.getElem?_toArray];rw[List.getElem?_append_left (by rw[h.len];exact Z8z hi hjs)];exact e
def Z8k (P:Program) (e:TypeId):Option (Nat×Nat) :=
 match P.info? e with
 | some i=>match i.zero with
  | some z=>match Nat.beq z.cells.size i.size with
   | true=>some (i.bytes,i.size)
   | false=>none
  | none=>none
 | none=>none
theorem Z97 {P:Program} {e:TypeId} {by_ sz:Nat} (h:Z8k P e=some (by_,sz)):∃ i z,P.info? e=some i∧i.zero=some z∧i.bytes=by_∧i.size=sz∧z.cells.size=sz:=by
 unfold Z8k at h;split at h
 ·rename_i i hi
  split at h
  ·rename_i z hz
   split at h
   ·rename_i hb
    simp at h;obtain⟨rfl,rfl⟩:=h;exact⟨i,z,hi,hz,rfl,rfl,Nat.eq_of_beq_eq_true hb⟩
   ·simp at h
  ·simp at h
 ·simp at h
def Zbh (base:Option Addr) (off:Nat) (news:List Value):Sem Unit:=match base with
 | some a=>storeCells (a.add off) news
 | none=>pure ()
def Zbm (P:Program) (ts:Array TypeId):Bool:=match ts[1]? with
 | none=>true
 | some t=>match P.underlying t with
  | some (.int _)=>false
  | some _=>true
  | none=>false
theorem Z7d {P:Program} {st e:TypeId} {ts:Array TypeId} {ty:TypeId} {sz by_:Nat} (hts:ts[0]? = some st) (hts2:Zbm P ts=true)
  (hel:P.underlying st=some (.slice e)) (hby:Z8k P e=some (by_,sz)) {base:Option Addr} {n c m:Nat} {xv:Value} {news:List Value} {w w':World}
  (hxlen:(Builtin.lenOf xv).run P w = .ok m w) (hx:(Builtin.firstCells sz m xv).run P w = .ok news.toArray w) (hfit:n+m≤c) (hst:(Zbh base (n*sz) news).run P w = .ok () w') :
  (Builtin.append_ ts ty #[.slice base n c,xv]).run P w = .ok (.slice base (n+m) c) w':=by
 obtain⟨i,z,hi,hz,rfl,rfl,_⟩:=Z97 hby;unfold Zbm at hts2;cases h1:ts[1]? with
 | none =>
  cases base with
  | none =>
   simp only[Zbh,Sem.run_pure,Result.ok.injEq,true_and] at hst;subst hst;simp[Builtin.append_,hts,h1,Zp hel,sizeOf,Z3a hi,hxlen,hfit,hx]
  | some a =>
   simp only[Zbh] at hst;simp[Builtin.append_,hts,h1,Zp hel,sizeOf,Z3a hi,hxlen,hfit,hx,hst]
 | some t =>
  rw[h1] at hts2;simp only at hts2;cases hd:P.underlying t with
  | none=>rw[hd] at hts2;simp at hts2
  | some d =>
   have hm:(match d with | .int _=>true | _=>false)=false:=by rw[hd] at hts2;cases d<;>simp_all
   cases base with
   | none =>
    simp only[Zbh,Sem.run_pure,Result.ok.injEq,true_and] at hst;subst hst;simp[Builtin.append_,hts,h1,Zp hel,sizeOf,Z3a hi,hxlen,hfit,hx,Zp hd];cases d<;>simp_all
   | some a =>
    simp only[Zbh] at hst;simp[Builtin.append_,hts,h1,Zp hel,sizeOf,Z3a hi,hxlen,hfit,hx,hst,Zp hd];cases d<;>simp_all
set_option maxHeartbeats 2000000 in
theorem Z9p {P:Program} {st e:TypeId} {ts:Array TypeId} {ty:TypeId} {sz by_:Nat} (hts:ts[0]? = some st) (hts2:Zbm P ts=true)
  (hel:P.underlying st=some (.slice e)) (hby:Z8k P e=some (by_,sz)) (hb0:0<by_) {base:Option Addr} {n c m:Nat} {xv:Value} {olds news:List Value} {w:World}
  (hxlen:(Builtin.lenOf xv).run P w = .ok m w) (hx:(Builtin.firstCells sz m xv).run P w.drew = .ok news.toArray w.drew) (ho:(Builtin.firstCells sz n (.slice base n c)).run P w.drew = .ok olds.toArray w.drew)
  (hgrow:c<n+m) (hroom:(n+m)*by_≤140737488355328) :
  ∃ cap rest,n+m≤cap∧rest.length=(cap-(n+m))*sz∧(Builtin.append_ ts ty #[.slice base n c,xv]).run P w = .ok (.slice (some ⟨w.heap.size,0,none⟩) (n+m) cap) (World.alloc' w.drew (.cells (olds++news++rest).toArray e)):=by
 obtain⟨i,z,hi,hz,rfl,rfl,hzs⟩:=Z97 hby;have h48:=growslice_fits hgrow hroom;have h48':¬ (281474976710656<Builtin.nextslicecap (n+m) c*i.bytes):=by omega
 have hnf:¬ (n+m≤c):=by omega
 have hb:i.bytes≠0:=by omega
 have h63:¬ (9223372036854775807<((n:Int)+(m:Int))):=by
  have:n+m≤(n+m)*i.bytes:=Nat.le_mul_of_pos_right _ (by omega);omega
 let cap:=(Question.appendCap (n+m) c e).cut (w.tape w.drawn (.appendCap (n+m) c e))
 have hcap:n+m≤cap:=by simp only[cap,Question.cut];omega
 refine⟨cap,(Builtin.zeroCells z.cells (cap-(n+m))).toList,hcap,by simp[Zam,hzs],?_⟩;have hask:∀ (k:Nat) (w:World),(askRoom k).run P w = .ok () w:=by
  intro k w;unfold askRoom;split<;>simp[mark,Sem.run]
 unfold Zbm at hts2;have hfin:∀ l:Array Value,l=(olds++news++(Builtin.zeroCells z.cells (cap-(n+m))).toList).toArray→w.drew.alloc (.cells l e)=World.alloc' w.drew (.cells (olds++news++(Builtin.zeroCells z.cells (cap-(n+m))).toList).toArray e):=by
  intro l hl;subst hl;rfl
 cases h1:ts[1]? with
 | none =>
  rw[← hfin _ rfl];simp[Builtin.append_,hts,h1,Zp hel,sizeOf,Z3a hi,hxlen,hnf,hx,ho,hb,h63,h48',choose,Sem.run,Question.forced,hask,zeroValue,hz,newRow,newObj,cap];refine congrArg (fun l=>w.drew.alloc (.cells l e)) ?_;rw[← Array.toList_inj];simp
 | some t =>
  rw[h1] at hts2;simp only at hts2;cases hd:P.underlying t with
  | none=>rw[hd] at hts2;simp at hts2
  | some d =>
   rw[hd] at hts2;rw[← hfin _ rfl];cases d<;>first
    | (simp at hts2;done)
    | (simp [Builtin.append_, hts, h1, Zp              hel, sizeOf, Z3a           hi, hxlen, hnf, hx, ho, hb, h63, h48', choose, Sem.run, Question.forced, hask, zeroValue, hz, newRow, newObj, cap, Zp              hd]
       refine congrArg (fun l=>w.drew.alloc (.cells l e)) ?_;rw[← Array.toList_inj];simp)
theorem Z9b {w:World} {b:Nat} {o:Obj} (h:w.heap[b]? = some o):World.setBlock w b o=w:=by
 obtain⟨hb,he⟩:=Array.getElem?_eq_some_iff.1 h;have:w.heap.setIfInBounds b o=w.heap:=by
  apply Array.ext
  ·simp
  ·intro i h1 h2
   by_cases e:b=i
   ·subst e;simp[he]
   ·have:(w.heap.setIfInBounds b o)[i]? = w.heap[i]? := by rw[Array.getElem?_setIfInBounds,if_neg e]
    rw[Array.getElem?_eq_getElem h1,Array.getElem?_eq_getElem h2] at this;exact Option.some.inj this
 unfold World.setBlock;rw[this]
theorem Z81 {P:Program} {b:Nat} {el:TypeId} (vs:List Value) (w:World) (arr:Array Value) (off:Nat) (h:w.heap[b]? = some (.cells arr el (0,0))) (hs:off+vs.length≤arr.size)
  (hl:∀ v∈vs,Zde v=true):(storeCells ⟨b,off,none⟩ vs 0).run P w = .ok () (World.setBlock w b (.cells (Z3l arr off vs) el (0,0))):=by
 cases vs with
 | nil=>simp[storeCells,Z3l,Z9b h]
 | cons v r=>exact Z7b (v::r) w arr off 0 h hs hl (by simp)
theorem Zcm {s:Z5} {k:Nat} {l:List (Nat×Option MObj)} (h:s.fresh k) (hl:∀ p∈l,p.2=none):(s.objput l).fresh k:=by
 have hobj:∀ k',(s.objput l).obj k'=s.obj k'∨(s.objput l).obj k'=none:=by
  intro k';rw[Z5.obj_objput];cases e:look l k' with
  | none=>exact .inl rfl
  | some v=>have:=hl _ (Z4e e);simp only at this;subst this;exact .inr rfl
 refine⟨h.1,fun k' o ho => ?_,?_,h.2.2.2⟩
 ·rcases hobj k' with e | e<;>rw[e] at ho
  ·exact h.2.1 k' o ho
  ·simp at ho
 ·rcases hobj k with e | e<;>rw[e]
  exact h.2.2.1
theorem flat_leaf {w:World} {I:Nat→Prop} {sz:Nat} {es:List (List Im)} {vs:List Value} (h:Flat w I sz es vs) (hl:∀ c∈es,Z3i (c.map .im)=true):∀ v∈vs,Zde v=true:=by
 intro v hv;obtain⟨m,hm,rfl⟩:=List.mem_iff_getElem.1 hv;have hlen:=h.len;have hsz0:0<sz:=by
  rcases Nat.eq_zero_or_pos sz with h0 | h0
  ·rw[h0,Nat.mul_zero] at hlen;omega
  ·exact h0
 have hi:m / sz<es.length:=by rw[Nat.div_lt_iff_lt_mul hsz0];omega
 have hj:m % sz<(es[m / sz]).length:=by rw[h.el];exact Nat.mod_lt _ hsz0
 obtain⟨v,e,r⟩:=h.at_ _ hi _ hj;rw[show m / sz*sz+m % sz=m from by rw[Nat.mul_comm];exact Nat.div_add_mod m sz,List.getElem?_eq_getElem hm] at e;rw[Option.some.inj e];have hc:=hl _ (List.getElem_mem hi);have hlf:=Zad hc (m % sz) (by simpa using hj);rw[List.getElem_map] at hlf;exact Zdo (w:=w) (I:=I) (κ:=fun _=>none) (.im r) hlf
theorem append_core {P:Program} {Γ:Ctx} {κ:Nat→Option KI} {I:Nat→Prop} {s:Z5} {w:World} {st e:TypeId} {ts:Array TypeId} {sz by_:Nat} {old new:List (List Im)} {sv xv:Value} {news:List Value} {k2:Nat} {kold:List Nat} {ty:TypeId}
  (hinv:Inv Γ κ I s w) (hf:s.fresh k2) (hts:ts[0]? = some st) (hts2:Zbm P ts=true) (hel:P.underlying st=some (.slice e)) (hby:Z8k P e=some (by_,sz)) (hb0:0<by_)
  (hold:(∃ base,sv = .slice base 0 0∧old=[]∧kold=[])∨∃ k,kold=[k]∧s.obj k=some (.row sz e old)∧Rep w I κ (.own k) sv)
  (hxlen:∀ w2:World,w2.heap=w.heap→(Builtin.lenOf xv).run P w2 = .ok new.length w2) (hxcells:∀ w2:World,w2.heap=w.heap→(Builtin.firstCells sz new.length xv).run P w2 = .ok news.toArray w2)
  (hfl:Flat w I sz new news) (hleaf:∀ v∈news,Zde v=true) (hroom:(old.length+new.length)*by_≤140737488355328) :
  ∃ v w' κ',(Builtin.append_ ts ty #[sv,xv]).run P w = .ok v w'∧Inv Γ κ' I (s.objput ((k2,some (.row sz e (old++new)))::kold.map (·,none))) w'∧(∀ b,I b→w'.heap[b]? = w.heap[b]?) ∧
   (∀ x k,(s.get x).has k=true→κ' k=κ k)∧Rep w' I κ' (.own k2) v:=by
 have hk0:∀ p∈kold.map (fun k=>(k,(none:Option MObj))),p.2=none:=by
  intro p hp;obtain⟨k,_,rfl⟩:=List.mem_map.1 hp;rfl
 have hinvk:=hinv.kill _ hk0;have hfk:=Zcm hf hk0;have grown:∀ (base:Option Addr) (n c:Nat) (olds:List Value),sv = .slice base n c→n=old.length→c<n+new.length→(∀ w2:World,w2.heap=w.heap→(Builtin.firstCells sz n (.slice base n c)).run P w2 = .ok olds.toArray w2) →
   Flat w I sz old olds→∃ v w' κ',(Builtin.append_ ts ty #[sv,xv]).run P w = .ok v w'∧Inv Γ κ' I (s.objput ((k2,some (.row sz e (old++new)))::kold.map (·,none))) w'∧(∀ b,I b→w'.heap[b]? = w.heap[b]?) ∧
   (∀ x k,(s.get x).has k=true→κ' k=κ k)∧Rep w' I κ' (.own k2) v:=by
  intro base n c olds hsv hn hgrow ho hfo;subst hn;obtain⟨cap,rest,hcap,hrest,hrun⟩:=Z9p (ty:=ty) hts hts2 hel hby hb0 (hxlen w rfl) (hxcells w.drew rfl) (ho w.drew rfl) hgrow hroom
  let ki:KI:=⟨w.heap.size,cap,sz,old.length+new.length⟩
  have hdrew:Inv Γ κ I (s.objput (kold.map (·,none))) w.drew:=by
   refine⟨fun k o hk => ?_,hinvk.inj,hinvk.disj,hinvk.bound,⟨hinvk.keep.os,hinvk.keep.tape,hinvk.keep.output,hinvk.keep.size,hinvk.keep.block⟩,hinvk.ikeep,hinvk.fromI,hinvk.fromO,hinvk.fix⟩;have:=hinvk.objs k o hk;unfold OAt at this ⊢;split
   ·rename_i e';rw[e'] at this;exact this
   ·rename_i ki' e';rw[e'] at this;exact this.mono (fun _ h=>h) (fun _ _=>rfl) rfl (fun _ _=>rfl)
  have hfl2:Flat (World.alloc' w.drew (.cells (olds++news++rest).toArray e)) I sz (old++new) (olds++news) :=
   (hfo.append hfl).mono (fun _ h=>h) (fun b hb=>Z6f _ _ _ (hdrew.bound b hb))
  have hO:ORep (World.alloc' w.drew (.cells (olds++news++rest).toArray e)) I (setK κ k2 (some ki)) ki (.row sz e (old++new)) :=
   ORep.ofFlat (Z89 w.drew _) hfl2 rfl (by simp[ki]) (by simpa[ki] using hcap) (by
    rw[List.length_append,hfl2.len,hrest,← Nat.add_mul];simp only[ki,List.length_append];congr 1;omega)
  obtain⟨g1,g2,g3⟩:=hdrew.alloc hfk (ki:=ki) rfl hO;refine⟨_,_,setK κ k2 (some ki),by rw[hsv];exact hrun,g1,g2,fun x k hx=>g3 x k hx,?_⟩;exact Rep.own (k:=k2) (ki:=ki) (Z2v ..)
 rcases hold with ⟨base,rfl,rfl,rfl⟩ | ⟨k,rfl,hobj,hrep⟩
 ·by_cases hnew:new=[]
  ·subst hnew
   have hn0:news=[]:=by have:=hfl.len;simpa using this
   subst hn0;obtain⟨g1,g2⟩:=hinv.emptyRow (sz:=sz) (el:=e) hf;refine⟨.slice base 0 0,w,setK κ k2 none,?_,g1,fun _ _=>rfl,g2,.own0 base (Z2v ..)⟩;exact Z7d (n:=0) (c:=0) (m:=0) hts hts2 hel hby (hxlen w rfl) (hxcells w rfl) (Nat.le_refl _) (by cases base<;>simp[Zbh,storeCells])
  ·have hpos:0<new.length:=by cases new with | nil=>simp at hnew | cons=>simp
   exact grown base 0 0 [] rfl rfl (by omega) (fun w2 _=>by cases base<;>simp[Builtin.firstCells,loadCells,loadCellsFrom]) ⟨by simp,fun i h=>absurd h (Nat.not_lt_zero _),fun i h=>absurd h (Nat.not_lt_zero _)⟩
 ·have hO:=hinv.objs k _ hobj
  cases hrep with
  | own0 base eκ =>
   simp only[OAt,eκ] at hO;obtain⟨_,_,e'⟩:=hO;simp at e';obtain⟨_,_,rfl⟩:=e';by_cases hnew:new=[]
   ·subst hnew
    have hn0:news=[]:=by have:=hfl.len;simpa using this
    subst hn0;obtain⟨g1,g2⟩:=hinvk.emptyRow (sz:=sz) (el:=e) hfk;refine⟨.slice base 0 0,w,setK κ k2 none,?_,g1,fun _ _=>rfl,fun x k hx=>g2 x k hx,.own0 base (Z2v ..)⟩;exact Z7d (n:=0) (c:=0) (m:=0) hts hts2 hel hby (hxlen w rfl) (hxcells w rfl) (Nat.le_refl _) (by cases base<;>simp[Zbh,storeCells])
   ·have hpos:0<new.length:=by cases new with | nil=>simp at hnew | cons=>simp
    exact grown base 0 0 [] rfl rfl (by omega) (fun w2 _=>by cases base<;>simp[Builtin.firstCells,loadCells,loadCellsFrom]) ⟨by simp,fun i h=>absurd h (Nat.not_lt_zero _),fun i h=>absurd h (Nat.not_lt_zero _)⟩
  | @own _ ki eκ =>
   obtain⟨arr,h1,h2,h3,h4,h5,hfo⟩:=row_flat hO eκ;have hle:old.length*sz≤arr.size:=by rw[h2];exact Nat.mul_le_mul_right _ h5
   by_cases hfit:old.length+new.length≤ki.cap
   ·let ki':KI:=⟨ki.b,ki.cap,sz,old.length+new.length⟩
    have hsz2:old.length*sz+news.length≤arr.size:=by rw[h2,hfl.len,← Nat.add_mul];exact Nat.mul_le_mul_right _ hfit
    have hst:=Z81 (P:=P) news w arr (old.length*sz) h1 hsz2 hleaf;have hbl:ki.b<w.heap.size:=(Array.getElem?_eq_some_iff.1 h1).1;have hne:∀ b,I b→(World.setBlock w ki.b (.cells (Z3l arr (old.length*sz) news) e (0,0))).heap[b]? = w.heap[b]? := fun b hb'=>by
     rw[Z30 _ _ _ _ hbl,if_neg];rintro rfl;exact hinv.disj k _ ki hobj eκ hb'
    have hflall:=(hfo.append hfl).mono (I':=I) (fun _ h=>h) hne;have hO':ORep (World.setBlock w ki.b (.cells (Z3l arr (old.length*sz) news) e (0,0))) I (setK κ k2 (some ki')) ki' (.row sz e (old++new)):=by
     refine⟨rfl,by simp[ki'],by simpa[ki'] using hfit,Z3l arr (old.length*sz) news,by rw[Z30 _ _ _ _ hbl,if_pos rfl],by rw[Z5i];exact h2,fun i hi=>⟨hflall.el i hi,fun j hj => ?_⟩⟩;obtain⟨v,e',r⟩:=hflall.at_ i hi j hj;have hjs:j<sz:=by rw[← hflall.el i hi];exact hj
     refine⟨v,?_,r⟩;rw[Z4t _ _ _ _ hsz2];have hlt:=Z8z hi hjs;rw[List.length_append,Nat.add_mul] at hlt;by_cases hin:old.length*sz≤i*sz+j
     ·rw[if_pos ⟨hin,by rw[hfl.len];exact hlt⟩]
      rw[List.getElem?_append_right (by simp;omega)] at e';rw[← e'];congr 1;simp;omega
     ·rw[if_neg (by omega)]
      rw[List.getElem?_append_left (by simp;omega),List.getElem?_take,if_pos (by omega)] at e';simpa using e'
    obtain⟨g1,g2,g3⟩:=hinv.move hobj eκ hf (ki':=ki') rfl hO';refine⟨.slice (some ⟨ki.b,0,none⟩) (ki.len+new.length) ki.cap,_,setK κ k2 (some ki'),?_,g1,g2,g3,?_⟩
    ·exact Z7d hts hts2 hel hby (hxlen w rfl) (hxcells w rfl) (by omega) (by simp only[Zbh,Z6z,Nat.zero_add,h3];exact hst)
    ·have:=Rep.own (w:=World.setBlock w ki.b (.cells (Z3l     arr (old.length*sz) news) e (0,0))) (I:=I) (κ:=setK κ k2 (some ki')) (k:=k2) (ki:=ki') (Z2v       ..)
     rw[h3];exact this
   ·refine grown (some ⟨ki.b,0,none⟩) ki.len ki.cap (arr.toList.take (old.length*sz)) rfl h3 (by omega) (fun w2 hw2 => ?_) hfo
    simp only[Builtin.firstCells];rw[Z60 (u:=fun m=>arr[m]?.getD undef) (fun m hm=>by
     have hm2:m<arr.size:=by rw[h3] at hm;omega
     have:w2.cell? ⟨ki.b,0+m,none⟩=w.cell? ⟨ki.b,0+m,none⟩:=by unfold World.cell?;rw[hw2]
     rw[this,Z8n h1,Nat.zero_add];simp[hm2])]
    congr 2;apply List.ext_getElem?;intro m;rw[List.getElem?_map,List.getElem?_take,h3];by_cases hm:m<old.length*sz
    ·rw[List.getElem?_range hm,if_pos hm]
     have:m<arr.size:=by omega
     simp[this]
    ·rw[if_neg hm,List.getElem?_eq_none (by rw[List.length_range];omega)];rfl
theorem ok_append {P:Program} {o:Oper} {s:Z5} {x y:Operand} {ts:Array TypeId} {st e:TypeId} {sz by_:Nat} {old new:List (List Im)} {xa ya:AVal} (k2:Nat) (kold skeys:List Nat)
  (ho:o.op = .call { callee:=.builtin .append,args := #[x,y],argTypes:=ts }) (hts:ts[0]? = some st) (hts2:Zbm P ts=true) (hel:P.underlying st=some (.slice e)) (hby:Z8k P e=some (by_,sz)) (hb0:0<by_)
  (hx:s.eval x=xa) (hy:s.eval y=ya) (hold:(xa = .none0∧old=[]∧kold=[])∨∃ k,xa = .own k∧kold=[k]∧s.obj k=some (.row sz e old))
  (hsrc:Src s skeys ya new) (hsz:∀ c∈new,c.length=sz) (hksz:∀ k sz' el es',ya = .own k→s.obj k=some (.row sz' el es')→sz'=sz) (hleaf:∀ c∈new,Z3i (c.map .im)=true)
  (hroom:(old.length+new.length)*by_≤140737488355328) :
  OpOK P o (mkSp s o (kold++skeys) [k2] (.own k2) ((k2,some (.row sz e (old++new)))::kold.map (·,none))) :=
 .of fun Γ κ I s2 a w hP hr hn hf=>by
  have hfk:=hf k2 (by simp[mkSp]);have g1:=opd hr hn x (by simp[ho,Op.operands,Call.operands]) hx;have g2:=opd hr hn y (by simp[ho,Op.operands,Call.operands]) hy;obtain⟨base,cap,news,hyv,hfl,hcells⟩:=src_cells (P:=P) hr.inv (fun k hk=>Z3m hn k (by simp[hk])) hsrc g2 hsz hksz;obtain⟨v,w',κ',h1,h2,h3,h4,h5⟩:=append_core (P:=P) (ts:=ts) (ty:=o.type) (sv:=a.eval x) (xv:=a.eval y) (news:=news) (kold:=kold) hr.inv hfk hts hts2 hel hby hb0 (by
   rcases hold with ⟨rfl,rfl,rfl⟩ | ⟨k,rfl,rfl,hk⟩
   ·obtain⟨base,e⟩:=Z8w g1;exact .inl ⟨base,e,rfl,rfl⟩
   ·exact .inr ⟨k,rfl,(Z3m hn k (by simp)).trans hk,g1⟩) (fun w2 _=>by rw[hyv];simp[Builtin.lenOf]) hcells hfl (flat_leaf hfl hleaf) hroom
  exact⟨v,_,w',κ',I,.inl rfl,by simp[execOp,ho,resolve,invoke,builtin,h1],h2,fun _ h=>h,h3,h4,h5⟩
end Go.Pv
