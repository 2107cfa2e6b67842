import Derived.ChangeKeysEq
import Derived.Laws.BytesString
import Derived.Laws.Externs
import Derived.Laws.MakeOwn
import Derived.Laws.StructEq
import Derived.Lib.Builder
import Derived.Lib.Bytealg
import Derived.Lib.UnsafeStr
import Derived.Test.YtlclecehlekjoaaGreatPxChunkCuts02
set_option linter.unusedVariables false
set_option linter.unusedSimpArgs false
namespace Go.Pv
def chk (p:Prop) [Decidable p]:Option Unit:=if p then some () else none
def at? {α:Type} (xs:List α) (i:Int):Option α:=if 0≤i then xs[i.toNat]? else none
inductive Flow (ρ σ:Type) where
 | ret (r:ρ)
 | out (s:σ)
theorem Z0q {p:Prop} [Decidable p] {α:Type} {f:Unit→Option α} {r:α} (h:(chk p>>=f)=some r):p∧f ()=some r:=by
 unfold chk at h
 split at h
 ·rename_i hp;exact⟨hp,h⟩
 ·simp at h
theorem Z03 {α β:Type} {xs:List α} {i:Int} {f:α→Option β} {r:β} (h:(at? xs i>>=f)=some r):∃ b,0≤i∧xs[i.toNat]? = some b∧f b=some r:=by
 unfold at? at h
 split at h
 ·rename_i h0
  cases e:xs[i.toNat]? with
  | none=>rw[e] at h;simp at h
  | some b=>rw[e] at h;exact⟨b,h0,rfl,h⟩
 ·simp at h
theorem Z3 {α β:Type} {x:Option α} {f:α→Option β} {r:β} (h:(x>>=f)=some r):∃ b,x=some b∧f b=some r:=by
 cases x with
 | none=>simp at h
 | some b=>exact⟨b,rfl,h⟩
theorem Zf {α:Type} {xs:List α} {i:Nat} {b:α} (f:α→List Im) (h:xs[i]? = some b):(xs.map f)[i]? = some (f b):=by rw[List.getElem?_map,h];rfl
theorem Z1u {α:Type} {xs:List α} {i:Int} {b:α} (f:α→List Im) (h0:0≤i) (h:xs[i.toNat]? = some b):i<(((xs.map f).length:Nat):Int):=by
 obtain⟨h1,_⟩:=List.getElem?_eq_some_iff.1 h
 simp only[List.length_map];omega
theorem Zi {α:Type} (xs:List α) (f:α→List Im):(xs.map f).length=xs.length:=List.length_map ..
theorem Z0k {α:Type} (xs:List α) (f:α→List Im) (n:Nat) (h:∀ x,(f x).length=n):∀ c∈xs.map f,c.length=n:=by
 intro c hc;obtain⟨x,_,rfl⟩:=List.mem_map.1 hc;exact h x
theorem Z0j {α:Type} (xs:List α) (f:α→List Im) (h:∀ x,Z0m ((f x).map .im)=true):∀ c∈xs.map f,Z0m (c.map .im)=true:=by
 intro c hc;obtain⟨x,_,rfl⟩:=List.mem_map.1 hc;exact h x
theorem app1 {α:Type} (xs:List α) (y:α) (f:α→List Im):(xs++[y]).map f=xs.map f++[f y]:=by simp
theorem set1 {α:Type} (xs:List α) (i:Nat) (y:α) (f:α→List Im):(xs.set i y).map f=(xs.map f).set i (f y):=by rw[List.map_set]
theorem cut1 {α:Type} (xs:List α) (l n:Nat) (f:α→List Im):((xs.drop l).take n).map f=((xs.map f).drop l).take n:=by rw[List.map_take,List.map_drop]
abbrev iV (k:IntKind) (n:Int):AVal:=.im (.sc (.int k n))
abbrev bV (b:Bool):AVal:=.im (.sc (.bool b))
abbrev iI (k:IntKind) (n:Int):Im:=.sc (.int k n)
theorem reg {P:Program} {n:Nat} {Γ:Ctx} (hP:Γ.P=P) (hn:Γ.n=n) (hm:P.follows .mixedOrders=true) {id:Nat} {draw:Bool} {Q:Exit→Z7→Prop} {s:Z7} {ops:List Oper} (hints:List (Nat×Hint)) (live keeps:List Nat) (s':Z7) (ps:List Prop)
  (h:Z4g P n draw ops hints live keeps s=some (s',ps)) (hp:AllP ps) (hq:Q .normal s'):AWp Γ (.region id ops.toArray draw) Q s:=by
 subst hP;subst hn;exact AWp.region hints live keeps s' ps hm h hp hq
theorem iT {α:Type} {b:Bool} {x y z:α} (c:b=true) (H:(if b=true then x else y)=z):x=z:=by rw[if_pos c] at H;exact H
theorem iF {α:Type} {b:Bool} {x y z:α} (c:b=false) (H:(if b=true then x else y)=z):y=z:=by rw[if_neg (by simp[c])] at H;exact H
def up (s:Z7) (ch:List (Nat×AVal)) (live:List Nat) (oc:List (Nat×Option MObj)) (keeps:List Nat):Z7 :=
 ⟨live.map fun x=>(x,match look ch x with
  | some v=>v
  | none=>s.get x),keeps.map fun k=>(k,match look oc k with
  | some o=>o
  | none=>s.obj k),s.floor⟩
theorem rG {P:Program} {n:Nat} {Γ:Ctx} (hP:Γ.P=P) (hn:Γ.n=n) (hm:P.follows .mixedOrders=true) {id:Nat} {draw:Bool} {Q:Exit→Z7→Prop} {s:Z7} {ops:List Oper} (hints:List (Nat×Hint)) (ch:List (Nat×AVal)) (live:List Nat) (oc:List (Nat×Option MObj)) (keeps:List Nat) (ps:List Prop) (hp:AllP ps) (hq:Q .normal (up s ch live oc keeps))
  (h:Z4g P n draw ops hints live keeps s=some (up s ch live oc keeps,ps):=by kernel_rfl):AWp Γ (.region id ops.toArray draw) Q s:=reg hP hn hm hints live keeps _ ps h hp hq
theorem sR {P:Program} {n:Nat} {Γ:Ctx} (hP:Γ.P=P) (hn:Γ.n=n) (hm:P.follows .mixedOrders=true) {id:Nat} {draw:Bool} {y:Code} {Q:Exit→Z7→Prop} {s:Z7} {ops:List Oper} (hints:List (Nat×Hint)) (ch:List (Nat×AVal)) (live:List Nat) (oc:List (Nat×Option MObj)) (keeps:List Nat) (ps:List Prop) (hp:AllP ps) (hq:AWp Γ y Q (up s ch live oc keeps))
  (h:Z4g P n draw ops hints live keeps s=some (up s ch live oc keeps,ps):=by kernel_rfl):AWp Γ (.seq (.region id ops.toArray draw) y) Q s:=AWp.seq (reg hP hn hm hints live keeps _ ps h hp hq)
theorem rO {P:Program} {n:Nat} {Γ:Ctx} (hP:Γ.P=P) (hn:Γ.n=n) (hm:P.follows .mixedOrders=true) {id:Nat} {draw:Bool} {Q:Exit→Z7→Prop} {s:Z7} {ops:List Oper} (hints:List (Nat×Hint)) (ch:List (Nat×AVal)) (live:List Nat) (oc:List (Nat×Option MObj)) (keeps:List Nat) (hq:Q .normal (up s ch live oc keeps))
  (h:Z4g P n draw ops hints live keeps s=some (up s ch live oc keeps,[]):=by kernel_rfl):AWp Γ (.region id ops.toArray draw) Q s:=reg hP hn hm hints live keeps _ [] h trivial hq
theorem sO {P:Program} {n:Nat} {Γ:Ctx} (hP:Γ.P=P) (hn:Γ.n=n) (hm:P.follows .mixedOrders=true) {id:Nat} {draw:Bool} {y:Code} {Q:Exit→Z7→Prop} {s:Z7} {ops:List Oper} (hints:List (Nat×Hint)) (ch:List (Nat×AVal)) (live:List Nat) (oc:List (Nat×Option MObj)) (keeps:List Nat) (hq:AWp Γ y Q (up s ch live oc keeps))
  (h:Z4g P n draw ops hints live keeps s=some (up s ch live oc keeps,[]):=by kernel_rfl):AWp Γ (.seq (.region id ops.toArray draw) y) Q s:=AWp.seq (reg hP hn hm hints live keeps _ [] h trivial hq)
theorem sj {α:Type} {a b:α} (h:some a=some b):a=b:=Option.some.inj h
theorem LWp.conv {Γ:Ctx} {c:Code} {Q:Exit→Z7→Prop} {s t:Z7} (inv:List (Nat×Nat)) (vk e0:List Nat) (h:convS s inv vk e0 t=some t) (k:LWp Γ c Q t):LWp Γ c Q s :=
 fun a w hs=>k a w (hs.conv inv vk e0 h)
theorem LWp.mono {Γ:Ctx} {c:Code} {Q Q':Exit→Z7→Prop} {s:Z7} (h:LWp Γ c Q s) (hq:∀ e s,Q e s→Q' e s):LWp Γ c Q' s :=
 fun a w hs b k cs=>let ⟨e,a',w',⟨s',h1,h2⟩,h3⟩:=h a w hs b k cs;⟨e,a',w',⟨s',h1,hq _ _ h2⟩,h3⟩
def Cv (Γ:Ctx) (s t:Z7):Prop:=∀ a w,Sat Γ s a w→Sat Γ t a w
theorem lf {Γ:Ctx} {s t:Z7} {Q:Z7→Prop} (inv:List (Nat×Nat)) (vk e0:List Nat) (h:convS s inv vk e0 t=some t) (hq:Q t):∃ t,Cv Γ s t∧Q t:=⟨t,fun a w hs=>hs.conv inv vk e0 h,hq⟩
theorem rl {Γ:Ctx} {s:Z7} {A:Prop} {F R O:Z7→Prop} (a:A) (f:F s) (r:R s) (o:O s):∃ t,Cv Γ s t∧A∧F t∧R t∧O t:=⟨s,fun _ _ h=>h,a,f,r,o⟩
theorem AWp.cv {Γ:Ctx} {c:Code} {Q:Exit→Z7→Prop} {s:Z7} (h:AWp Γ c (fun e s'=>∃ t,Cv Γ s' t∧Q e t) s):AWp Γ c Q s :=
 fun a w hs=>Code.wp_mono (fun e a w ⟨s',h1,t,h2,h3⟩=>⟨t,h2 a w h1,h3⟩) (h a w hs)
theorem LWp.cv {Γ:Ctx} {c:Code} {Q:Exit→Z7→Prop} {s:Z7} (h:LWp Γ c (fun e s'=>∃ t,Cv Γ s' t∧Q e t) s):LWp Γ c Q s :=
 fun a w hs b k cs=>let ⟨e,a',w',⟨s',h1,t,h2,h3⟩,h4⟩:=h a w hs b k cs;⟨e,a',w',⟨t,h2 a' w' h1,h3⟩,h4⟩
def RetK (P:Program) (fn:Func) (floor:Nat) (keys:List Nat) (x:AVal) (o:List (Nat×Option MObj)) (e:Exit) (s:Z7):Prop :=
 (e = .ret∨e = .normal)∧s.floor=floor∧Z1x P fn s=some x∧(keys.map fun k=>(k,s.obj k))=o
theorem look_keys (s:Z7):∀ (keys:List Nat) (k:Nat) (o:MObj),(look (keys.map fun k=>(k,s.obj k)) k).getD none=some o→s.obj k=some o:=by
 intro keys
 induction keys with
 | nil=>intro k o h;simp[look] at h
 | cons q r ih =>
  intro k o h
  rw[List.map_cons,Z1y] at h
  split at h
  ·rename_i e;subst e;exact h
  ·exact ih k o h
theorem Fn.bodyK {P:Program} {f:FuncId} {fn:Func} {c:Code} {args:List AVal} {objs:List (Nat×Option MObj)} {floor:Nat} {x:AVal} {o:List (Nat×Option MObj)} (keys:List Nat)
  (hf:P.funcs[f]? = some fn) (hb:fn.body=some c) (hn:Nat.ble args.length fn.ntmps=true)
  (h:∀ Γ:Ctx,Γ.P=P→Γ.n=fn.ntmps→AWp Γ c (fun e s'=>∃ t,Cv Γ s' t∧RetK P fn floor keys x o e t) ⟨Z4s args 0,objs,floor⟩):Fn P f args objs floor (fun r o'=>r=x∧o'=o):=by
 have h1:Fn P f args objs floor (fun r o'=>r=x∧(keys.map fun k=>(k,(⟨[],o',floor⟩:Z7).obj k))=o):=Fn.body hf hb hn (fun Γ hP hΓ=>((h Γ hP hΓ).cv).mono fun e s ⟨he,hfl,hr,ho⟩=>⟨he,hfl,x,hr,rfl,ho⟩)
 intro κ I w vs hl hreps hinv
 refine(h1 κ I w vs hl hreps hinv).mono fun e w' ⟨v,r,o',κ',I',e1,⟨e2,e5⟩,e3,e4⟩=>⟨v,r,o,κ',I',e1,⟨e2,rfl⟩,e3,e4.eqv (fun k q hk => ?_) rfl⟩
 subst e5
 exact look_keys ⟨[],o',floor⟩ keys k q hk
abbrev Z1 (k:IntKind) (n:Int):List Im:=[.sc (.int k n)]
abbrev Z0y {α:Type} (f:α→List Im) (xs:List α):List Im:=[.row (xs.map f)]
theorem Zn {Γ:Ctx} {c:Code} {Q:Exit→Z7→Prop} {s:Z7} (h:∀ c',c'=c→LWp Γ c' Q s):LWp Γ c Q s:=h c rfl
abbrev U64 (n:Int):Prop:=0≤n∧n<18446744073709551616
abbrev I64 (n:Int):Prop:=-9223372036854775808≤n∧n<9223372036854775808
abbrev Rng (lo hi n:Int):Prop:=lo≤n∧n<hi
end Go.Pv
set_option linter.unusedVariables false
set_option linter.unusedSimpArgs false
namespace Go.Pv
def optB (b:Option Bool) (v:Bool):Bool×List Prop :=
 match b with
 | some c=>(c,[v=c])
 | none=>(v,[])
theorem optB_eq {b:Option Bool} {v:Bool} (h:AllP (optB b v).2):(optB b v).1=v:=by
 cases b with
 | none=>rfl
 | some c=>exact h.1.symm
def eqScal (P:Program) (t:TypeId) (x y:Value):Option Bool :=
 match P.underlying t,x,y with
 | some (.int _),.int k a,.int k' b=>match eqK k k' with
  | true=>some (a==b)
  | false=>none
 | some .bool,.bool a,.bool b=>some (a==b)
 | some .string,.string a,.string b=>some (a.toList==b.toList)
 | _,_,_=>none
theorem eqScal_ok {P:Program} {t:TypeId} {x y:Value} {r:Bool} (h:eqScal P t x y=some r) (d:Nat) (w:World):(Op.equalIn (d+1) t x y).run P w = .ok r w∧P.plainKey t=true:=by
 unfold eqScal at h
 split at h
 ·rename_i hu
  split at h
  ·rename_i hk
   obtain rfl:=eqK_eq hk
   obtain rfl:=Option.some.inj h
   exact⟨run_equalIn_int w d t _ _ _ _ hu,by simp[Program.plainKey,hu]⟩
  ·simp at h
 ·rename_i hu;obtain rfl:=Option.some.inj h;exact⟨run_equalIn_bool' w d t _ _ hu,by simp[Program.plainKey,hu]⟩
 ·rename_i hu;obtain rfl:=Option.some.inj h;exact⟨run_equalIn_string w d t _ _ hu,by simp[Program.plainKey,hu]⟩
 ·simp at h
def eqFs (P:Program):List Field→List Value→List Value→Option Bool
 | [],_,_=>some true
 | f::fs,xs,ys=>match f.name == "_" with
  | true=>none
  | false=>match xs[f.offset]?,ys[f.offset]? with
   | some a,some b=>match eqScal P f.type a b,eqFs P fs xs ys with
    | some r,some q=>some (r&&q)
    | _,_=>none
   | _,_=>none
theorem eqFs_ok {P:Program} (d:Nat) (xs ys:List Value) (w:World):∀ {fs:List Field} {r:Bool},eqFs P fs xs ys=some r→(Op.eqFields (d+1) xs.toArray ys.toArray fs).run P w = .ok r w:=by
 intro fs
 induction fs with
 | nil=>intro r h;obtain rfl:=Option.some.inj h;rfl
 | cons f fs ih =>
  intro r h
  unfold eqFs at h
  split at h
  ·simp at h
  ·rename_i hname
   have hname:f.name ≠ "_" := by simpa using hname
   split at h
   ·rename_i a b ha hb
    split at h
    ·rename_i r1 q hr hq
     obtain rfl:=Option.some.inj h
     obtain⟨g1,g2⟩:=eqScal_ok hr d w
     have ha':(xs.toArray)[f.offset]? = some a:=by simpa using ha
     have hb':(ys.toArray)[f.offset]? = some b:=by simpa using hb
     simp only[Op.eqFields]
     rw[if_pos hname]
     simp only[Sem.run_bind,run_part_plain w g2 ha',run_part_plain w g2 hb',Result.andThen_ok,g1]
     cases r1 with
     | false=>simp
     | true=>simpa using ih hq
    ·simp at h
   ·simp at h
theorem agg_sc {w:World} {I:Nat→Prop} {κ:Nat→Option KI} {cells:List AVal} {vs:List Value} {v:Value} (h:Z7i cells=some vs) (hr:Rep w I κ (.agg cells) v):v = .agg vs.toArray:=by
 obtain rfl:=Z84 h
 cases hr with
 | @agg _ us hl hreps =>
  congr 2
  apply List.ext_getElem (by simpa using hl)
  intro i h1 h2
  have:=hreps i (by simpa using h2) h1
  rw[List.getElem_map] at this
  exact this.sc_inv
def xAgg (b:Option Bool):Ext where
 f P o s:=match o.op with
  | .binOp op t x y _=>match s.eval x,s.eval y with
   | .agg xs,.agg ys=>match Z7i    xs,Z7i    ys,P.eqGuardType P.depth t,P.stoodInHeld t,P.underlying t with
    | some vx,some vy,false,false,some (.struct fs)=>match eqFs P fs.toList vx vy with
     | some r=>match op with
      | .eql=>some ⟨[],[],.im (.sc (.bool (optB b r).1)),[],(optB b r).2⟩
      | .neq=>some ⟨[],[],.im (.sc (.bool (optB b !r).1)),[],(optB b !r).2⟩
      | _=>none
     | none=>none
    | _,_,_,_,_=>none
   | _,_=>none
  | _=>none
 ok P o s e he hp:=by
  split at he
  ·rename_i op t x y _ ho
   split at he
   ·rename_i xs ys hx hy
    split at he
    ·rename_i vx vy fs h1 h2 h3 h4 h5
     split at he
     ·rename_i r hr
      have hf:P.fieldsOf t=fs:=by simp[Program.fieldsOf,h5]
      have key:∀ (Γ:Ctx) (κ:Nat→Option KI) (I:Nat→Prop) (s2:Z7) (a:Act) (w:World),Γ.P=P→Rel Γ κ I s2 a w→(mkSp s o [] [] (.im (.sc (.bool r))) []).needs s2 →
        a.eval x = .agg vx.toArray∧a.eval y = .agg vy.toArray:=fun Γ κ I s2 a w hP hrel hn =>
       ⟨agg_sc h1 (opd hrel hn x (by simp[ho,Op.operands]) hx),agg_sc h2 (opd hrel hn y (by simp[ho,Op.operands]) hy)⟩
      have heq:∀ w,(Op.equalIn 10000 t (.agg vx.toArray) (.agg vy.toArray)).run P w = .ok r w:=fun w=>by
       rw[run_equalIn_agg w 9999 t _ _ (by rw[hf];exact h5) h4,hf]
       exact eqFs_ok 9998 vx vy w hr
      split at he
      ·obtain rfl:=Option.some.inj he
       simp only at hp ⊢
       rw[optB_eq hp]
       exact .quiet rfl fun Γ κ I s2 a w hP hrel hn=>by
        obtain⟨e1,e2⟩:=key Γ κ I s2 a w hP hrel hn
        refine⟨.bool r,?_,.im (.sc _)⟩
        simp only[execOp,ho,e1,e2,Sem.run_bind,run_eqGuard_agg w _ t x y _ _ h3,Result.andThen_ok,run_eql_struct,heq,Sem.run_pure]
      ·obtain rfl:=Option.some.inj he
       simp only at hp ⊢
       rw[optB_eq hp]
       exact .quiet rfl fun Γ κ I s2 a w hP hrel hn=>by
        obtain⟨e1,e2⟩:=key Γ κ I s2 a w hP hrel hn
        refine⟨.bool !r,?_,.im (.sc _)⟩
        simp only[execOp,ho,e1,e2,Sem.run_bind,run_eqGuard_agg w _ t x y _ _ h3,Result.andThen_ok,run_neq_struct,heq,Sem.run_pure]
      ·simp at he
     ·simp at he
    ·simp at he
   ·simp at he
  ·simp at he
def xIdx (n:Nat):Ext where
 f P o s:=match o.op with
  | .index t x i=>match P.underlying t,s.eval x,s.eval i with
   | some (.array len el),.agg cells,.im (.sc (.int k m))=>match aggP P el with
    | some (ag,sz)=>match Z8g    ag (n*sz) sz cells,Nat.blt n len with
     | some r,true=>some ⟨[],[],r,[],[m=(n:Int)]⟩
     | _,_=>none
    | none=>none
   | _,_,_=>none
  | _=>none
 ok P o s e he hp:=by
  split at he
  ·rename_i t x i ho
   split at he
   ·rename_i len el cells k m ht hx hi
    split at he
    ·rename_i ag sz hag
     split at he
     ·rename_i r hr hlt
      obtain rfl:=Option.some.inj he
      obtain⟨rfl,_⟩:=hp
      have hlt:n<len:=by simpa[Nat.blt_eq] using hlt
      refine .quiet rfl fun Γ κ I s2 a w hP hrel hn => ?_
      have h:=opd hrel hn x (by simp[ho,Op.operands]) hx
      have h':=(opd hrel hn i (by simp[ho,Op.operands]) hi).sc_inv
      generalize ha:a.eval x=v at h
      cases h with
      | @agg _ vs hl hreps =>
       have hc:(0≤(n:Int)∧(n:Int)<len):=by omega
       cases ag with
       | true =>
        simp only[Z8g] at hr
        cases hb:Nat.ble (n*sz+sz) cells.length with
        | false=>rw[hb] at hr;simp at hr
        | true =>
         rw[hb] at hr
         have hle:=Nat.le_of_ble_eq_true hb
         obtain rfl:=Option.some.inj hr
         refine⟨.agg ((vs.drop (n*sz)).take sz).toArray,?_,.agg (by simp[hl]) (fun j h h' => ?_)⟩
         ·simp[execOp,ho,ha,h',Instr.index,asIntOf,Zm ht,hlt,part,Z4x hag,Z17 hag]
         ·simp only[List.length_take,List.length_drop] at h
          rw[List.getElem_take,List.getElem_drop,List.getElem_take,List.getElem_drop]
          exact hreps _ _ _
       | false =>
        simp only[Z8g] at hr
        obtain⟨hi,rfl⟩:=List.getElem?_eq_some_iff.1 hr
        refine⟨vs[n*sz]'(by omega),?_,hreps _ _ _⟩
        have:vs[n*sz]? = some (vs[n*sz]'(by omega)):=by simp
        simp[execOp,ho,ha,h',Instr.index,asIntOf,Zm ht,hlt,part,Z4x hag,Z17 hag,this]
     ·simp at he
    ·simp at he
   ·simp at he
  ·simp at he
theorem x_add64 {P:Program} {g:FuncId} {fn:Func} (hf:P.funcs[g]? = some fn) (hname:(fn.name == "runtime.NumGoroutine")=false) (hb:fn.body.isNone=true) (hn:Extern.findNext fn=none) (he:Extern.find fn=some add64Entry)
  {x y c:Int} (h:0≤x∧0≤y∧0≤c∧c≤1) (w:World) :
  (callFunc g ([.int .u64 x,.int .u64 y,.int .u64 c]:List Value).toArray).run P w = .ok (.value (.tuple #[.int .u64 ((x+y+c) % 18446744073709551616),.int .u64 ((x+y+c) / 18446744073709551616)])) w:=by
 rw[run_callFunc_extern hf hname hb hn he]
 have:=run_add64 (P:=P) x y c h.1 h.2.1 h.2.2.1 h.2.2.2 w
 simp only[this,Result.andThen_ok]
end Go.Pv
set_option linter.unusedVariables false
set_option linter.unusedSimpArgs false
namespace Go.Pv
theorem run_eql_slice {P:Program} {t e:TypeId} (ht:P.underlying t=some (.slice e)) (b:Option Addr) (n c n' c':Nat) (w:World) :
  (binOp .eql t (.slice b n c) (.slice none n' c')).run P w = .ok (.bool b.isNone) w:=by
 have h:(Op.equal t (.slice b n c) (.slice none n' c')).run P w = .ok b.isNone w:=by
  unfold Op.equal Op.maxDepth
  rw[Op.equalIn]
  cases b<;>simp only[Sem.run_bind,Zm ht,Result.andThen_ok,Sem.run_pure]<;>rfl
 show(do pure (.bool (← Op.equal t (.slice b n c) (.slice none n' c'))):Sem Value).run P w=_
 rw[Sem.run_bind,h];rfl
def nilA:AVal→Option Bool
 | .im (.row (_::_))=>some false
 | .im (.sc (.slice (some _) _ _))=>some false
 | .im (.sc (.slice none _ _))=>some true
 | _=>none
theorem nilA_rep {w:World} {I:Nat→Prop} {κ:Nat→Option KI} {x:AVal} {v:Value} {r:Bool} (h:nilA x=some r) (hr:Rep w I κ x v):∃ b n c,v = .slice b n c∧b.isNone=r:=by
 unfold nilA at h
 split at h
 ·obtain rfl:=Option.some.inj h
  cases hr with
  | im h=>cases h with
   | row u hn=>exact⟨_,_,_,rfl,rfl⟩
 ·obtain rfl:=Option.some.inj h;exact⟨_,_,_,hr.sc_inv,rfl⟩
 ·obtain rfl:=Option.some.inj h;exact⟨_,_,_,hr.sc_inv,rfl⟩
 ·simp at h
def xNil:Ext where
 f P o s:=match o.op with
  | .binOp .eql t x (.const (.slice none _ _)) _=>match P.underlying t,nilA (s.eval x) with
   | some (.slice _),some r=>some ⟨[],[],.im (.sc (.bool r)),[],[]⟩
   | _,_=>none
  | _=>none
 ok P o s e he hp:=by
  split at he
  ·rename_i t x n' c' _ ho
   split at he
   ·rename_i el r ht hr
    obtain rfl:=Option.some.inj he
    refine .quiet rfl fun Γ κ I s2 a w hP hrel hn => ?_
    have g:=opd hrel hn x (by simp[ho,Op.operands]) rfl
    obtain⟨b,n,c,e,rfl⟩:=nilA_rep hr g
    refine⟨.bool b.isNone,?_,.im (.sc _)⟩
    have hc:a.eval (.const (.slice none n' c')) = .slice none n' c':=rfl
    simp only[execOp,ho,e,hc,eqGuard]
    simp[run_eql_slice ht]
   ·simp at he
  ·simp at he
theorem AWp.nilSplit {Γ:Ctx} {c:Code} {Q:Exit→Z7→Prop} {s:Z7} (x:Nat) (hx:s.get x = .im (.row [])) (h:∀ b n,AWp Γ c Q (s.put (some x) (.im (.sc (.slice b 0 n))))):AWp Γ c Q s:=by
 intro a w hs
 obtain⟨κ,I,hr⟩:=hs
 have g:=hr.slots x
 rw[hx] at g
 have:∃ b n,a.tmps.getD x undef = .slice b 0 n:=by
  generalize a.tmps.getD x undef=v at g
  cases g with
  | im h=>cases h with
   | row0 b n=>exact⟨b,n,rfl⟩
   | row u hn=>subst hn;exact⟨_,_,rfl⟩
 obtain⟨b,n,e⟩:=this
 refine h b n a w ⟨κ,I,hr.size,hr.defers,fun y => ?_,hr.inv.eqv (fun k o hk=>by rwa [Z7.obj_put] at hk) rfl⟩
 rw[Z7.get_put]
 split
 ·rename_i hxy;subst hxy;rw[e];exact .im (.sc _)
 ·exact hr.slots y
theorem AWp.unsplit {Γ:Ctx} {c:Code} {Q:Exit→Z7→Prop} {s:Z7} (x:Nat) {b:Option Addr} {n:Nat} (hx:s.get x = .im (.sc (.slice b 0 n))) (h:AWp Γ c Q (s.put (some x) (.im (.row [])))):AWp Γ c Q s:=by
 intro a w hs
 obtain⟨κ,I,hr⟩:=hs
 have g:=hr.slots x
 rw[hx] at g
 have e:=g.sc_inv
 refine h a w ⟨κ,I,hr.size,hr.defers,fun y => ?_,hr.inv.eqv (fun k o hk=>by rwa [Z7.obj_put] at hk) rfl⟩
 rw[Z7.get_put]
 split
 ·rename_i hxy;subst hxy;rw[e];exact .im (.row0 b n)
 ·exact hr.slots y
theorem OpOK.frozen {P:Program} {o:Oper} {s:Z7} {keys news:List Nat} {post:List (Nat×Option MObj)} {k sz el:Nat} {es:List (List Im)} (h:OpOK P o (mkSp s o keys news (.own k) post))
  (hk:look post k=some (some (.row sz el es))):OpOK P o (mkSp s o keys news (.im (.row es)) ((k,none)::post)):=by
 intro Γ hP hd s2 a w hs hn hf K Q hK
 refine h Γ hP hd s2 a w hs hn hf K Q (fun a' w' hs'=>hK a' w' ?_)
 obtain⟨κ,I,hr⟩:=hs'
 have hact:∀ (res:AVal) (post:List (Nat×Option MObj)) (q:Nat),((mkSp s o keys news res post).act o.dst s2).obj q=(s2.objput post).obj q:=fun res post q=>Z7.obj_put _ _ _ _
 have hobjk:((mkSp s o keys news (.own k) post).act o.dst s2).obj k=some (.row sz el es):=by
  rw[hact];show(look (post++s2.objs) k).getD none=_
  rw[Z59,hk];rfl
 have hO:=hr.inv.objs k _ hobjk
 let I':Nat→Prop:=fun b=>I b∨∃ ki,κ k=some ki∧ki.b=b
 have hI:∀ b,I b→I' b:=fun b h =>.inl h
 have hold:∀ k' q,((mkSp s o keys news (.im (.row es)) ((k,none)::post)).act o.dst s2).obj k'=some q→k'≠k∧((mkSp s o keys news (.own k) post).act o.dst s2).obj k'=some q:=by
  intro k' q hq
  rw[hact] at hq ⊢
  change (look ((k,none)::(post++s2.objs)) k').getD none=_ at hq
  change _∧(look (post++s2.objs) k').getD none=_
  rw[Z1y] at hq
  by_cases e:k=k'
  ·rw[if_pos e] at hq;simp at hq
  ·rw[if_neg e] at hq;exact⟨fun h=>e h.symm,hq⟩
 have hnot:∀ k' q ki ki',k'≠k→((mkSp s o keys news (.own k) post).act o.dst s2).obj k'=some q→κ k'=some ki'→κ k=some ki→ki'.b≠ki.b:=by
  intro k' q ki ki' hne hq e1 e2 hb
  exact hne (hr.inv.inj k' k q _ ki' ki hq hobjk e1 e2 hb)
 refine⟨κ,I',hr.size,hr.defers,fun x => ?_,?_,?_,?_,?_,hr.inv.keep,fun b h =>.inl (hr.inv.ikeep b h),?_,?_,?_⟩
 ·have g:=hr.slots x
  revert g
  simp only[Sp.act,mkSp]
  cases o.dst with
  | none=>exact fun g=>g.mono hI (fun _ _=>rfl) (fun _ _=>rfl)
  | some d =>
   rw[Z7.get_put,Z7.get_put]
   by_cases e:d=x
   ·rw[if_pos e,if_pos e]
    intro g
    have:=Z2g (I':=I') (κc:=κ) (inv:=[]) (views:=[(k,es)]) hI (by intro a b h;simp[look] at h) (fun k' es' h=>by
     rw[Z1y] at h
     split at h
     ·rename_i e';subst e';simp at h;subst h
      exact⟨⟨sz,el,hO⟩,fun ki e =>.inr ⟨ki,e,rfl⟩⟩
     ·simp[look] at h) g
    simpa[pass,look] using this
   ·rw[if_neg e,if_neg e]
    exact fun g=>g.mono hI (fun _ _=>rfl) (fun _ _=>rfl)
 ·intro k' q hq
  obtain⟨hne,hq⟩:=hold k' q hq
  have:=hr.inv.objs k' q hq
  unfold OAt at this ⊢
  cases e:κ k' with
  | none=>rw[e] at this;exact this
  | some ki=>rw[e] at this;exact this.mono hI (fun _ _=>rfl) rfl (fun _ _=>rfl)
 ·intro q1 q2 o1 o2 ki1 ki2 h1 h2 f1 f2 hb
  exact hr.inv.inj q1 q2 o1 o2 ki1 ki2 (hold q1 o1 h1).2 (hold q2 o2 h2).2 f1 f2 hb
 ·intro q o' ki hq f hIb
  obtain⟨hne,hq⟩:=hold q o' hq
  rcases hIb with hIb | ⟨ki',e1,e2⟩
  ·exact hr.inv.disj q o' ki hq f hIb
  ·exact hnot q o' ki' ki hne hq f e1 e2.symm
 ·intro b hIb
  rcases hIb with hIb | ⟨ki,e1,rfl⟩
  ·exact hr.inv.bound b hIb
  ·have:=hO
   simp only[OAt,e1] at this
   obtain⟨_,_,_,arr,h3,_⟩:=this
   exact(Array.getElem?_eq_some_iff.1 h3).1
 ·intro b hIb
  rcases hIb with hIb | ⟨ki,e1,rfl⟩
  ·exact hr.inv.fromI b hIb
  ·rcases hr.inv.fromO k _ ki hobjk e1 with h | h
   ·exact .inr (.inl h)
   ·exact .inr (.inr h)
 ·intro q o' ki hq f
  exact hr.inv.fromO q o' ki (hold q o' hq).2 f
 ·intro q hq
  refine hr.inv.fix q ?_
  have e1:((mkSp s o keys news (.im (.row es)) ((k,none)::post)).act o.dst s2).floor=s2.floor:=by cases o.dst<;>rfl
  have e2:((mkSp s o keys news (.own k) post).act o.dst s2).floor=s2.floor:=by cases o.dst<;>rfl
  rw[e1] at hq;rw[e2];exact hq
def xFz (h:Hint):Ext where
 f P o s:=match autoOp P h o s with
  | some e=>match e.res with
   | .own k=>match look e.post k with
    | some (some (.row sz el es))=>some ⟨e.keys,e.news,.im (.row es),(k,none)::e.post,e.props⟩
    | _=>none
   | _=>none
  | none=>none
 ok P o s e he hp:=by
  split at he
  ·rename_i e0 h0
   split at he
   ·rename_i k hk
    split at he
    ·rename_i sz el es hl
     obtain rfl:=Option.some.inj he
     have:=autoOp_ok h0 hp
     rw[hk] at this
     exact this.frozen hl
    ·simp at he
   ·simp at he
  ·simp at he
end Go.Pv
set_option linter.unusedVariables false
set_option linter.unusedSimpArgs false
namespace Go.Pv
def xMax:Ext where
 f P o s:=match o.op with
  | .call { callee:=.builtin .max,args:=⟨[x,y]⟩,argTypes:=ts }=>match s.eval x,s.eval y with
   | .im (.sc (.int k a)),.im (.sc (.int _ b))=>some ⟨[],[],.im (.sc (.int k (if b>a then b else a))),[],[]⟩
   | _,_=>none
  | _=>none
 ok P o s e he hp:=by
  split at he
  ·rename_i x y ts ho
   split at he
   ·rename_i k a k' b hx hy
    obtain rfl:=Option.some.inj he
    exact ok_pure _ [(x,.int k a),(y,.int k' b)] (by simp[ho,Op.operands,Call.operands,hx,hy]) (fun ρ hρ w=>by
     have h1:=hρ (x,.int k a) (by simp)
     have h2:=hρ (y,.int k' b) (by simp)
     simp only at h1 h2
     simp[execOp,ho,resolve,invoke,builtin,h1,h2,Builtin.max_,Builtin.max2])
   ·simp at he
  ·simp at he
def xMin:Ext where
 f P o s:=match o.op with
  | .call { callee:=.builtin .min,args:=⟨[x,y]⟩,argTypes:=ts }=>match s.eval x,s.eval y with
   | .im (.sc (.int k a)),.im (.sc (.int _ b))=>some ⟨[],[],.im (.sc (.int k (if b<a then b else a))),[],[]⟩
   | _,_=>none
  | _=>none
 ok P o s e he hp:=by
  split at he
  ·rename_i x y ts ho
   split at he
   ·rename_i k a k' b hx hy
    obtain rfl:=Option.some.inj he
    exact ok_pure _ [(x,.int k a),(y,.int k' b)] (by simp[ho,Op.operands,Call.operands,hx,hy]) (fun ρ hρ w=>by
     have h1:=hρ (x,.int k a) (by simp)
     have h2:=hρ (y,.int k' b) (by simp)
     simp only at h1 h2
     simp[execOp,ho,resolve,invoke,builtin,h1,h2,Builtin.min_,Builtin.min2])
   ·simp at he
  ·simp at he
def xFunc:Ext where
 f P o s:=match o.op with
  | .makeFunc (.func g) ⟨[]⟩ caps=>some ⟨[],[],.fn g (caps.toList.map s.eval),[],[]⟩
  | _=>none
 ok P o s e he hp:=by
  split at he
  ·rename_i g caps ho
   obtain rfl:=Option.some.inj he
   refine .quiet rfl fun Γ κ I s2 a w hP hrel hn => ?_
   refine⟨.func (.func g) #[] (caps.toList.map a.eval).toArray,?_,.fn (by simp) (fun j h h' => ?_)⟩
   ·simp[execOp,ho,Instr.makeFunc]
    rw[← Array.toList_inj];simp
   ·rw[List.getElem_map,List.getElem_map]
    exact opd hrel hn _ (by simp[ho,Op.operands]) rfl
  ·simp at he
def bytesOK (xs:List Int):Prop:=∀ x∈xs,0≤x∧x<256
instance (xs:List Int):Decidable (bytesOK xs):=inferInstanceAs (Decidable (∀ x∈xs,0≤x∧x<256))
end Go.Pv
set_option linter.unusedVariables false
set_option linter.unusedSimpArgs false
namespace Go.Pv
def xSub (lo' n:Nat):Ext where
 f P o s:=match o.op with
  | .slice t x lo hi none=>match Z61   P t,s.eval x with
   | some (e,sz),.own k=>match s.obj k with
    | some (.row sz' el es)=>match optN s lo 0,optN s hi es.length,Nat.beq sz' sz with
     | some l,some u,true=>some ⟨[k],[],.sub k lo' n,[],[l=(lo':Int),u=((lo'+n:Nat):Int),lo'+n≤es.length]⟩
     | _,_,_=>none
    | _=>none
   | _,_=>none
  | _=>none
 ok P o s e he hp:=by
  split at he
  ·rename_i t x lo hi ho
   split at he
   ·rename_i e' sz k hel hx
    split at he
    ·rename_i sz' el es hk
     split at he
     ·rename_i l u hl hu hsz
      obtain rfl:=Nat.eq_of_beq_eq_true hsz
      obtain rfl:=Option.some.inj he
      obtain⟨rfl,rfl,p2,_⟩:=hp
      obtain⟨hun,ag,hag⟩:=Z47 hel
      refine .quiet rfl fun Γ κ I s2 a w hP hrel hn => ?_
      obtain⟨m1,m2,m3⟩:=cut_opds (s:=s) ho
      have g1:=opd hrel hn x m1 hx
      have q1:=Z5s hrel hn m2 (Z8x hl)
      have q2:=Z5s hrel hn m3 (Z8x hu)
      have hO:=hrel.inv.objs k _ ((Z29 hn k (by simp)).trans hk)
      generalize ha:a.eval x=v at g1
      cases g1 with
      | own0 base eκ =>
       simp only[OAt,eκ] at hO
       obtain⟨_,_,e⟩:=hO
       simp at e
       obtain⟨rfl,rfl,rfl⟩:=e
       simp only[List.length_nil] at p2 q2
       obtain rfl:lo'=0:=by omega
       obtain rfl:n=0:=by omega
       have hb:=Z36 (P:=P) (isSlice:=true) (len:=0) (cap:=0) q1 q2 (by simp) (by simp) (by simp) w
       refine⟨.slice base 0 0,?_,.sub0 base eκ⟩
       simp at hb
       simp[execOp,ho,ha,Instr.sliceAt,Zm hun,Instr.slice,hb,Z17 hag]
       try (cases base<;>simp)
      | @own _ ki eκ =>
       simp only[OAt,eκ] at hO
       obtain⟨h1,h2,h3,arr,h4,h5,h6⟩:=hO
       have hb:=Z36 (P:=P) (isSlice:=true) (len:=ki.len) (cap:=ki.cap) q1 (by rw[h2];exact q2) (by omega) (by omega) (by omega) w
       have hn':lo'+n-lo'=n:=by omega
       simp only[Int.toNat_natCast] at hb
       by_cases hc:ki.cap=lo'
       ·refine⟨.slice (some ⟨ki.b,0,none⟩) n (ki.cap-lo'),?_,.sub (off:=0) eκ (.inr hc.symm) (by omega) (by omega)⟩
        rw[hc] at hb
        simp[execOp,ho,ha,Instr.sliceAt,Zm hun,Instr.slice,hb,Z17 hag,hc,hn']
       ·refine⟨.slice (some ⟨ki.b,lo'*sz',none⟩) n (ki.cap-lo'),?_,.sub (off:=lo'*sz') eκ (.inl (by rw[h1])) (by omega) (by omega)⟩
        simp[execOp,ho,ha,Instr.sliceAt,Zm hun,Instr.slice,hb,Z17 hag,hc,hn',Z44]
     ·simp at he
    ·simp at he
   ·simp at he
  ·simp at he
end Go.Pv
set_option linter.unusedVariables false
set_option linter.unusedSimpArgs false
namespace Go.Pv
def outSc (objs:List (Nat×Option MObj)):List (Nat×Nat)→Option (List Prop)
 | []=>some []
 | (kc,_)::r=>match (⟨[],objs,0⟩:Z7    ).obj kc,outSc objs r with
  | some (.row _ _ es),some l=>some ((∀ c∈es,∀ x∈c,∃ v,x=Im.sc v)::l)
  | none,some l=>some l
  | _,_=>none
theorem outSc_ok {objs:List (Nat×Option MObj)}:∀ {out:List (Nat×Nat)} {l:List Prop},outSc objs out=some l→AllP l→∀ kc k o,(kc,k)∈out→(⟨[],objs,0⟩:Z7).obj kc=some o→ScObj o:=by
 intro out
 induction out with
 | nil=>intro l _ _ kc k o hm;simp at hm
 | cons p r ih =>
  intro l h hp kc k o hm ho
  obtain⟨kp,k'⟩:=p
  simp only[outSc] at h
  split at h
  ·rename_i sz el es l' e1 e2
   obtain rfl:=Option.some.inj h
   simp only[AllP] at hp
   rcases List.mem_cons.1 hm with hm | hm
   ·obtain⟨rfl,rfl⟩:=Prod.mk.inj hm
    rw[e1] at ho
    obtain rfl:=Option.some.inj ho
    exact⟨sz,el,es,rfl,hp.1⟩
   ·exact ih e2 hp.2 kc k o hm ho
  ·rename_i l' e1 e2
   obtain rfl:=Option.some.inj h
   rcases List.mem_cons.1 hm with hm | hm
   ·obtain⟨rfl,rfl⟩:=Prod.mk.inj hm
    rw[e1] at ho;simp at ho
   ·exact ih e2 hp kc k o hm ho
  ·simp at h
def Z3q (inv out:List (Nat×Nat)) (vk:List Nat) (news:List Nat) (floor:Nat) (r:AVal) (objs:List (Nat×Option MObj)):Ext where
 f P o s:=match o.op with
  | .call { callee:=.value fo,args:=as,argTypes:=ts }=>match funOf (s.eval fo) with
   | some (g,caps)=>match Z6z     s vk with
    | some views=>match Z65    inv out views news floor&&inv.all (fun p=>(s.obj p.1).isSome)&&Z3p   r with
     | true=>match outSc objs out with
      | some l=>some ⟨inv.map (·.1)++views.map (·.1),news,pass out [] r,Z56     ⟨[],objs,0⟩ out inv (views.map (·.1)) true,
       Enters P g::Fn P g ((as.toList.map s.eval++caps).map (fun x=>rowed (pass inv views x))) (Z6r s inv views) floor (fun r' o'=>r'=r∧o'=objs)::l⟩
      | none=>none
     | false=>none
    | none=>none
   | _=>none
  | _=>none
 ok P o s e he hp:=by
  split at he
  ·rename_i fo as ts ho
   split at he
   ·rename_i g caps hfo
    split at he
    ·rename_i views hv
     split at he
     ·rename_i hb
      split at he
      ·rename_i l hl
       simp only[Bool.and_eq_true] at hb
       obtain⟨⟨b1,b2⟩,b3⟩:=hb
       obtain rfl:=Option.some.inj he
       simp only[AllP] at hp
       exact ok_callG inv out views news floor rowed (fun _ _ _ _ _ h=>rowed_rep h) ho hfo hp.1 rfl (Z6y hv) b2 b1 hp.2.1 true (fun _=>⟨b3,outSc_ok hl hp.2.2⟩)
      ·simp at he
     ·simp at he
    ·simp at he
   ·simp at he
  ·simp at he
theorem Z3s {α:Type} (xs:List α) (f:α→List Im) (h:∀ y,∀ x∈f y,∃ v,x=Im.sc v):∀ c∈xs.map f,∀ x∈c,∃ v,x=Im.sc v:=by
 intro c hc;obtain⟨y,_,rfl⟩:=List.mem_map.1 hc;exact h y
end Go.Pv
set_option linter.unusedVariables false
set_option linter.unusedSimpArgs false
namespace Go.Pv
def xMake (k:Nat) (es':List (List Im)):Ext where
 f P o s:=match o.op with
  | .makeSlice t x y=>match Z61   P t,s.eval x,s.eval y with
   | some (e,sz),.im (.sc (.int _ l)),.im (.sc (.int _ c))=>match Z4q    P e,zeroA P e with
    | some (by_,sz2),some z=>match toImL (Z01      z) with
     | some zs=>match Nat.beq sz2 sz&&Z0m    (Z01      z) with
      | true=>some ⟨[],[k],.own k,[(k,some (.row sz e es'))],[es'=List.replicate l.toNat zs,0≤l,l≤c,(by_:Int)*c≤281474976710656,c≤9223372036854775807]⟩
      | false=>none
     | none=>none
    | _,_=>none
   | _,_,_=>none
  | _=>none
 ok P o s e he hp:=by
  split at he
  ·rename_i t x y ho
   split at he
   ·rename_i el sz kl l kc c hel hx hy
    split at he
    ·rename_i by_ sz2 z hby hz
     split at he
     ·rename_i zs hzs
      split at he
      ·rename_i hb
       simp only[Bool.and_eq_true] at hb
       obtain⟨b1,b3⟩:=hb
       obtain rfl:=Nat.eq_of_beq_eq_true b1
       obtain rfl:=Option.some.inj he
       obtain⟨rfl,p2,p3,p4,p5,_⟩:=hp
       obtain⟨hun,ag,hag⟩:=Z47 hel
       obtain⟨i0,zv,hinfo,hzero,hbytes,hsize,hzcs⟩:=Z53 hby
       obtain rfl:Z6s zv=z:=by
        unfold zeroA at hz;rw[hinfo] at hz;simp[hzero] at hz;exact hz
       obtain⟨t1,t2⟩:=Z82 hzs
       refine .of fun Γ κ I s2 a w hP hr hn hf => ?_
       have hfk:=hf k (by simp[mkSp])
       have g1:=(opd hr hn x (by simp[ho,Op.operands]) hx).sc_inv
       have g2:=(opd hr hn y (by simp[ho,Op.operands]) hy).sc_inv
       obtain⟨v1,v2,v3⟩:=Z2r (Z5x w I κ zv) b3
       have hzl:zs.length=sz2:=by rw[t1,← v1,hzcs]
       let ki:KI:=⟨w.heap.size,c.toNat,sz2,l.toNat⟩
       let ob:Obj:=.cells (madeCells zv.cells (c.toNat*i0.size)) el
       have hrun:(Instr.makeSlice t (.int kl l) (.int kc c)).run P w = .ok (.slice (some ⟨w.heap.size,0,none⟩) l.toNat c.toNat) (World.alloc' w ob) :=
        run_make w t el i0 zv hun hinfo hzero kl kc l c p2 p3 (by rw[hbytes];exact p4) p5
       have hO:ORep (World.alloc' w ob) I (setK κ k (some ki)) ki (.row sz2 el (List.replicate l.toNat zs)):=by
        refine⟨rfl,by simp[ki],by simp[ki];omega,madeCells zv.cells (c.toNat*i0.size),Z4m _ _,by rw[size_madeCells,hsize],fun i hi => ?_⟩
        simp only[List.length_replicate] at hi
        rw[List.getElem_replicate]
        refine⟨hzl,fun j hj => ?_⟩
        rw[hzl] at hj
        obtain⟨u,u1,u2⟩:=v2 j (by omega)
        refine⟨u,?_,(toIm_rep u2 (t2 j (by omega) (by omega))).mono (fun _ h=>h) (fun b hb=>Z3k _ _ _ (hr.inv.bound b hb))⟩
        have hlt:i*sz2+j<c.toNat*sz2:=Z66 (by omega) hj
        have hm:(i*sz2+j) % sz2=j:=by rw[Nat.mul_comm,Nat.mul_add_mod,Nat.mod_eq_of_lt hj]
        have hcs:j<zv.cells.size:=by omega
        rw[← u1]
        simp only[madeCells,hsize,hzcs]
        simp[hlt,hm,hcs]
       obtain⟨f1,f2,f3⟩:=hr.inv.alloc hfk (ki:=ki) rfl hO
       refine⟨_,_,_,_,I,.inl rfl,?_,f1,fun _ h=>h,f2,f3,.own (ki:=ki) (Z1e ..)⟩
       simp[execOp,ho,g1,g2,hrun,ki]
      ·simp at he
     ·simp at he
    ·simp at he
   ·simp at he
  ·simp at he
end Go.Pv
