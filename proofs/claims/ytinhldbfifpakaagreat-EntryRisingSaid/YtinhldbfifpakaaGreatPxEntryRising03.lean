import Derived.ChangeKeysEq
import Derived.Laws.BytesString
import Derived.Laws.Externs
import Derived.Laws.MakeOwn
import Derived.Laws.StructEq
import Derived.Lib.Builder
import Derived.Lib.Bytealg
import Derived.Lib.UnsafeStr
import Derived.Test.YtinhldbfifpakaaGreatPxEntryRising02
set_option linter.unusedVariables false
set_option linter.unusedSimpArgs false
namespace Go.Pv
def chk (p:Prop) [Decidable p]:Option Unit:=if p then some () else none
def at? {α:Type} (xs:List α) (i:Int):Option α:=if 0≤i then xs[i.toNat]? else none
inductive Flow (ρ σ:Type) where
 | ret (r:ρ)
 | out (s:σ)
theorem Z10 {p:Prop} [Decidable p] {α:Type} {f:Unit→Option α} {r:α} (h:(chk p>>=f)=some r):p∧f ()=some r:=by
 unfold chk at h
 split at h
 ·rename_i hp;exact⟨hp,h⟩
 ·simp at h
theorem Z02 {α β:Type} {xs:List α} {i:Int} {f:α→Option β} {r:β} (h:(at? xs i>>=f)=some r):∃ b,0≤i∧xs[i.toNat]? = some b∧f b=some r:=by
 unfold at? at h
 split at h
 ·rename_i h0
  cases e:xs[i.toNat]? with
  | none=>rw[e] at h;simp at h
  | some b=>rw[e] at h;exact⟨b,h0,rfl,h⟩
 ·simp at h
theorem Z4 {α β:Type} {x:Option α} {f:α→Option β} {r:β} (h:(x>>=f)=some r):∃ b,x=some b∧f b=some r:=by
 cases x with
 | none=>simp at h
 | some b=>exact⟨b,rfl,h⟩
theorem Zi {α:Type} {xs:List α} {i:Nat} {b:α} (f:α→List Im) (h:xs[i]? = some b):(xs.map f)[i]? = some (f b):=by rw[List.getElem?_map,h];rfl
theorem Z09 {α:Type} {xs:List α} {i:Int} {b:α} (f:α→List Im) (h0:0≤i) (h:xs[i.toNat]? = some b):i<(((xs.map f).length:Nat):Int):=by
 obtain⟨h1,_⟩:=List.getElem?_eq_some_iff.1 h
 simp only[List.length_map];omega
theorem Zr {α:Type} (xs:List α) (f:α→List Im):(xs.map f).length=xs.length:=List.length_map ..
theorem Z12 {α:Type} (xs:List α) (f:α→List Im) (n:Nat) (h:∀ x,(f x).length=n):∀ c∈xs.map f,c.length=n:=by
 intro c hc;obtain⟨x,_,rfl⟩:=List.mem_map.1 hc;exact h x
theorem Z14 {α:Type} (xs:List α) (f:α→List Im) (h:∀ x,Z16 ((f x).map .im)=true):∀ c∈xs.map f,Z16 (c.map .im)=true:=by
 intro c hc;obtain⟨x,_,rfl⟩:=List.mem_map.1 hc;exact h x
theorem app1 {α:Type} (xs:List α) (y:α) (f:α→List Im):(xs++[y]).map f=xs.map f++[f y]:=by simp
theorem set1 {α:Type} (xs:List α) (i:Nat) (y:α) (f:α→List Im):(xs.set i y).map f=(xs.map f).set i (f y):=by rw[List.map_set]
theorem cut1 {α:Type} (xs:List α) (l n:Nat) (f:α→List Im):((xs.drop l).take n).map f=((xs.map f).drop l).take n:=by rw[List.map_take,List.map_drop]
abbrev iV (k:IntKind) (n:Int):AVal:=.im (.sc (.int k n))
abbrev bV (b:Bool):AVal:=.im (.sc (.bool b))
abbrev sV (s:ByteArray):AVal:=.im (.sc (.string s))
abbrev iI (k:IntKind) (n:Int):Im:=.sc (.int k n)
abbrev sI (s:ByteArray):Im:=.sc (.string s)
theorem reg {P:Program} {n:Nat} {Γ:Ctx} (hP:Γ.P=P) (hn:Γ.n=n) (hm:P.follows .mixedOrders=true) {id:Nat} {draw:Bool} {Q:Exit→Zb→Prop} {s:Zb} {ops:List Oper} (hints:List (Nat×Hint)) (live keeps:List Nat) (s':Zb) (ps:List Prop)
  (h:Z4t P n draw ops hints live keeps s=some (s',ps)) (hp:AllP ps) (hq:Q .normal s'):AWp Γ (.region id ops.toArray draw) Q s:=by
 subst hP;subst hn;exact AWp.region hints live keeps s' ps hm h hp hq
theorem iT {α:Type} {b:Bool} {x y z:α} (c:b=true) (H:(if b=true then x else y)=z):x=z:=by rw[if_pos c] at H;exact H
theorem iF {α:Type} {b:Bool} {x y z:α} (c:b=false) (H:(if b=true then x else y)=z):y=z:=by rw[if_neg (by simp[c])] at H;exact H
def up (s:Zb) (ch:List (Nat×AVal)) (live:List Nat) (oc:List (Nat×Option MObj)) (keeps:List Nat):Zb :=
 ⟨live.map fun x=>(x,match look ch x with
  | some v=>v
  | none=>s.get x),keeps.map fun k=>(k,match look oc k with
  | some o=>o
  | none=>s.obj k),s.floor⟩
theorem rG {P:Program} {n:Nat} {Γ:Ctx} (hP:Γ.P=P) (hn:Γ.n=n) (hm:P.follows .mixedOrders=true) {id:Nat} {draw:Bool} {Q:Exit→Zb→Prop} {s:Zb} {ops:List Oper} (hints:List (Nat×Hint)) (ch:List (Nat×AVal)) (live:List Nat) (oc:List (Nat×Option MObj)) (keeps:List Nat) (ps:List Prop) (hp:AllP ps) (hq:Q .normal (up s ch live oc keeps))
  (h:Z4t P n draw ops hints live keeps s=some (up s ch live oc keeps,ps):=by kernel_rfl):AWp Γ (.region id ops.toArray draw) Q s:=reg hP hn hm hints live keeps _ ps h hp hq
theorem sR {P:Program} {n:Nat} {Γ:Ctx} (hP:Γ.P=P) (hn:Γ.n=n) (hm:P.follows .mixedOrders=true) {id:Nat} {draw:Bool} {y:Code} {Q:Exit→Zb→Prop} {s:Zb} {ops:List Oper} (hints:List (Nat×Hint)) (ch:List (Nat×AVal)) (live:List Nat) (oc:List (Nat×Option MObj)) (keeps:List Nat) (ps:List Prop) (hp:AllP ps) (hq:AWp Γ y Q (up s ch live oc keeps))
  (h:Z4t P n draw ops hints live keeps s=some (up s ch live oc keeps,ps):=by kernel_rfl):AWp Γ (.seq (.region id ops.toArray draw) y) Q s:=AWp.seq (reg hP hn hm hints live keeps _ ps h hp hq)
theorem rO {P:Program} {n:Nat} {Γ:Ctx} (hP:Γ.P=P) (hn:Γ.n=n) (hm:P.follows .mixedOrders=true) {id:Nat} {draw:Bool} {Q:Exit→Zb→Prop} {s:Zb} {ops:List Oper} (hints:List (Nat×Hint)) (ch:List (Nat×AVal)) (live:List Nat) (oc:List (Nat×Option MObj)) (keeps:List Nat) (hq:Q .normal (up s ch live oc keeps))
  (h:Z4t P n draw ops hints live keeps s=some (up s ch live oc keeps,[]):=by kernel_rfl):AWp Γ (.region id ops.toArray draw) Q s:=reg hP hn hm hints live keeps _ [] h trivial hq
theorem sO {P:Program} {n:Nat} {Γ:Ctx} (hP:Γ.P=P) (hn:Γ.n=n) (hm:P.follows .mixedOrders=true) {id:Nat} {draw:Bool} {y:Code} {Q:Exit→Zb→Prop} {s:Zb} {ops:List Oper} (hints:List (Nat×Hint)) (ch:List (Nat×AVal)) (live:List Nat) (oc:List (Nat×Option MObj)) (keeps:List Nat) (hq:AWp Γ y Q (up s ch live oc keeps))
  (h:Z4t P n draw ops hints live keeps s=some (up s ch live oc keeps,[]):=by kernel_rfl):AWp Γ (.seq (.region id ops.toArray draw) y) Q s:=AWp.seq (reg hP hn hm hints live keeps _ [] h trivial hq)
theorem sj {α:Type} {a b:α} (h:some a=some b):a=b:=Option.some.inj h
theorem LWp.conv {Γ:Ctx} {c:Code} {Q:Exit→Zb→Prop} {s t:Zb} (inv:List (Nat×Nat)) (vk e0:List Nat) (h:convS s inv vk e0 t=some t) (k:LWp Γ c Q t):LWp Γ c Q s :=
 fun a w hs=>k a w (hs.conv inv vk e0 h)
theorem LWp.mono {Γ:Ctx} {c:Code} {Q Q':Exit→Zb→Prop} {s:Zb} (h:LWp Γ c Q s) (hq:∀ e s,Q e s→Q' e s):LWp Γ c Q' s :=
 fun a w hs b k cs=>let ⟨e,a',w',⟨s',h1,h2⟩,h3⟩:=h a w hs b k cs;⟨e,a',w',⟨s',h1,hq _ _ h2⟩,h3⟩
def Cv (Γ:Ctx) (s t:Zb):Prop:=∀ a w,Sat Γ s a w→Sat Γ t a w
theorem lf {Γ:Ctx} {s t:Zb} {Q:Zb→Prop} (inv:List (Nat×Nat)) (vk e0:List Nat) (h:convS s inv vk e0 t=some t) (hq:Q t):∃ t,Cv Γ s t∧Q t:=⟨t,fun a w hs=>hs.conv inv vk e0 h,hq⟩
theorem rl {Γ:Ctx} {s:Zb} {A:Prop} {F R O:Zb→Prop} (a:A) (f:F s) (r:R s) (o:O s):∃ t,Cv Γ s t∧A∧F t∧R t∧O t:=⟨s,fun _ _ h=>h,a,f,r,o⟩
theorem AWp.cv {Γ:Ctx} {c:Code} {Q:Exit→Zb→Prop} {s:Zb} (h:AWp Γ c (fun e s'=>∃ t,Cv Γ s' t∧Q e t) s):AWp Γ c Q s :=
 fun a w hs=>Code.wp_mono (fun e a w ⟨s',h1,t,h2,h3⟩=>⟨t,h2 a w h1,h3⟩) (h a w hs)
theorem LWp.cv {Γ:Ctx} {c:Code} {Q:Exit→Zb→Prop} {s:Zb} (h:LWp Γ c (fun e s'=>∃ t,Cv Γ s' t∧Q e t) s):LWp Γ c Q s :=
 fun a w hs b k cs=>let ⟨e,a',w',⟨s',h1,t,h2,h3⟩,h4⟩:=h a w hs b k cs;⟨e,a',w',⟨t,h2 a' w' h1,h3⟩,h4⟩
def RetK (P:Program) (fn:Func) (floor:Nat) (keys:List Nat) (x:AVal) (o:List (Nat×Option MObj)) (e:Exit) (s:Zb):Prop :=
 (e = .ret∨e = .normal)∧s.floor=floor∧Z1y P fn s=some x∧(keys.map fun k=>(k,s.obj k))=o
theorem look_keys (s:Zb):∀ (keys:List Nat) (k:Nat) (o:MObj),(look (keys.map fun k=>(k,s.obj k)) k).getD none=some o→s.obj k=some o:=by
 intro keys
 induction keys with
 | nil=>intro k o h;simp[look] at h
 | cons q r ih =>
  intro k o h
  rw[List.map_cons,Z28] at h
  split at h
  ·rename_i e;subst e;exact h
  ·exact ih k o h
theorem Fn.bodyK {P:Program} {f:FuncId} {fn:Func} {c:Code} {args:List AVal} {objs:List (Nat×Option MObj)} {floor:Nat} {x:AVal} {o:List (Nat×Option MObj)} (keys:List Nat)
  (hf:P.funcs[f]? = some fn) (hb:fn.body=some c) (hn:Nat.ble args.length fn.ntmps=true)
  (h:∀ Γ:Ctx,Γ.P=P→Γ.n=fn.ntmps→AWp Γ c (fun e s'=>∃ t,Cv Γ s' t∧RetK P fn floor keys x o e t) ⟨Z4y args 0,objs,floor⟩):Fn P f args objs floor (fun r o'=>r=x∧o'=o):=by
 have h1:Fn P f args objs floor (fun r o'=>r=x∧(keys.map fun k=>(k,(⟨[],o',floor⟩:Zb).obj k))=o):=Fn.body hf hb hn (fun Γ hP hΓ=>((h Γ hP hΓ).cv).mono fun e s ⟨he,hfl,hr,ho⟩=>⟨he,hfl,x,hr,rfl,ho⟩)
 intro κ I w vs hl hreps hinv
 refine(h1 κ I w vs hl hreps hinv).mono fun e w' ⟨v,r,o',κ',I',e1,⟨e2,e5⟩,e3,e4⟩=>⟨v,r,o,κ',I',e1,⟨e2,rfl⟩,e3,e4.eqv (fun k q hk => ?_) rfl⟩
 subst e5
 exact look_keys ⟨[],o',floor⟩ keys k q hk
abbrev Z2 (k:IntKind) (n:Int):List Im:=[.sc (.int k n)]
abbrev Z3s (s:ByteArray):List Im:=[.sc (.string s)]
abbrev Z1e {α:Type} (f:α→List Im) (xs:List α):List Im:=[.row (xs.map f)]
theorem Zs {Γ:Ctx} {c:Code} {Q:Exit→Zb→Prop} {s:Zb} (h:∀ c',c'=c→LWp Γ c' Q s):LWp Γ c Q s:=h c rfl
abbrev U64 (n:Int):Prop:=0≤n∧n<18446744073709551616
abbrev I64 (n:Int):Prop:=-9223372036854775808≤n∧n<9223372036854775808
abbrev Rng (lo hi n:Int):Prop:=lo≤n∧n<hi
end Go.Pv
set_option linter.unusedVariables false
set_option linter.unusedSimpArgs false
namespace Go.Pv
def xIdx (n:Nat):Ext where
 f P o s:=match o.op with
  | .index t x i=>match P.underlying t,s.eval x,s.eval i with
   | some (.array len el),.agg cells,.im (.sc (.int k m))=>match aggP P el with
    | some (ag,sz)=>match Z89    ag (n*sz) sz cells,Nat.blt n len with
     | some r,true=>some ⟨[],[],r,[],[m=(n:Int)]⟩
     | _,_=>none
    | none=>none
   | _,_,_=>none
  | _=>none
 ok P o s e he hp:=by
  split at he
  ·rename_i t x i ho
   split at he
   ·rename_i len el cells k m ht hx hi
    split at he
    ·rename_i ag sz hag
     split at he
     ·rename_i r hr hlt
      obtain rfl:=Option.some.inj he
      obtain⟨rfl,_⟩:=hp
      have hlt:n<len:=by simpa[Nat.blt_eq] using hlt
      refine .quiet rfl fun Γ κ I s2 a w hP hrel hn => ?_
      have h:=opd hrel hn x (by simp[ho,Op.operands]) hx
      have h':=(opd hrel hn i (by simp[ho,Op.operands]) hi).sc_inv
      generalize ha:a.eval x=v at h
      cases h with
      | @agg _ vs hl hreps =>
       have hc:(0≤(n:Int)∧(n:Int)<len):=by omega
       cases ag with
       | true =>
        simp only[Z89] at hr
        cases hb:Nat.ble (n*sz+sz) cells.length with
        | false=>rw[hb] at hr;simp at hr
        | true =>
         rw[hb] at hr
         have hle:=Nat.le_of_ble_eq_true hb
         obtain rfl:=Option.some.inj hr
         refine⟨.agg ((vs.drop (n*sz)).take sz).toArray,?_,.agg (by simp[hl]) (fun j h h' => ?_)⟩
         ·simp[execOp,ho,ha,h',Instr.index,asIntOf,Zp ht,hlt,part,Z52 hag,Z15 hag]
         ·simp only[List.length_take,List.length_drop] at h
          rw[List.getElem_take,List.getElem_drop,List.getElem_take,List.getElem_drop]
          exact hreps _ _ _
       | false =>
        simp only[Z89] at hr
        obtain⟨hi,rfl⟩:=List.getElem?_eq_some_iff.1 hr
        refine⟨vs[n*sz]'(by omega),?_,hreps _ _ _⟩
        have:vs[n*sz]? = some (vs[n*sz]'(by omega)):=by simp
        simp[execOp,ho,ha,h',Instr.index,asIntOf,Zp ht,hlt,part,Z52 hag,Z15 hag,this]
     ·simp at he
    ·simp at he
   ·simp at he
  ·simp at he
def strOf (xs:List Int):ByteArray:=xs.foldl (fun r n=>r.push (UInt8.ofNat n.toNat)) ByteArray.empty
def xStr (xs:List Int):Ext where
 f P o s:=match o.op with
  | .convert st t x=>match Z59   P st,P.underlying t with
   | some (e,sz),some .string=>match P.underlying e,srcA s (s.eval x),Nat.beq sz 1 with
    | some (.int .u8),some (skeys,es,ksz),true=>match (match ksz with | some z=>Nat.beq z 1 | none=>true) with
     | true=>some ⟨skeys,[],.im (.sc (.string (strOf xs))),[],[es=xs.map (Z2 .u8)]⟩
     | false=>none
    | _,_,_=>none
   | _,_=>none
  | _=>none
 ok P o s e he hp:=by
  split at he
  ·rename_i st t x ho
   split at he
   ·rename_i el sz hel ht
    obtain⟨hu,_⟩:=Z3t hel
    split at he
    ·rename_i skeys es ksz hu8 hsrc hsz1
     split at he
     ·rename_i hks
      obtain rfl:=Option.some.inj he
      obtain⟨rfl,_⟩:=hp
      have hS:Src s skeys (s.eval x) (xs.map (Z2 .u8))∧∀ k sz' el' es'',s.eval x = .own k→s.obj k=some (.row sz' el' es'')→sz'=1:=by
       unfold srcA at hsrc
       split at hsrc
       ·rename_i es hy;simp at hsrc;obtain⟨rfl,rfl,rfl⟩:=hsrc;rw[hy];exact⟨.im _,fun k _ _ _ e=>by simp at e⟩
       ·rename_i hy;simp at hsrc;obtain⟨rfl,e2,rfl⟩:=hsrc;rw[hy];subst e2;exact⟨.none0,fun k _ _ _ e=>by simp at e⟩
       ·rename_i k hy
        split at hsrc
        ·rename_i sz3 el3 es hk
         simp at hsrc;obtain⟨rfl,rfl,rfl⟩:=hsrc
         rw[hy]
         refine⟨.own k _ _ _ (by simp) hk,fun k' sz' el' es'' e1 e2 => ?_⟩
         simp at e1;subst e1
         rw[hk] at e2;simp at e2
         obtain⟨rfl,_⟩:=e2
         exact Nat.eq_of_beq_eq_true hks
        ·simp at hsrc
       ·simp at hsrc
      refine .quiet rfl fun Γ κ I s2 a w hP hrel hn => ?_
      have g:=opd hrel hn x (by simp[ho,Op.operands]) rfl
      obtain⟨base,cap,vs,hv,hfl,hcells⟩:=src_cells (P:=P) (sz:=1) hrel.inv (fun k hk=>Z21 hn k hk) hS.1 g (by intro c hc;obtain⟨_,_,rfl⟩:=List.mem_map.1 hc;rfl) hS.2
      have hvs:vs=xs.map (Value.int .u8):=by
       apply List.ext_getElem (by simpa using hfl.len)
       intro i h1 h2
       simp only[List.length_map] at h2
       obtain⟨v,e1,e2⟩:=hfl.at_ i (by simpa using h2) 0 (by simp)
       rw[Nat.mul_one,Nat.add_zero,List.getElem?_eq_getElem h1] at e1
       obtain rfl:=Option.some.inj e1
       simp only[List.getElem_map,Z2,List.getElem_cons_zero] at e2
       rw[List.getElem_map]
       revert e2
       generalize vs[i]=q
       intro e2
       cases e2;rfl
      subst hvs
      refine⟨.string (strOf xs),?_,.im (.sc _)⟩
      have hrun:=hcells w rfl
      rw[hv] at hrun
      simp only[execOp,ho,hv]
      simp only[Sem.run_bind,run_convert_bytes_string w st t el _ _ _ hu hu8 ht]
      cases base with
      | none =>
       simp only[Builtin.firstCells,Sem.run_pure,Result.ok.injEq,and_true] at hrun
       have:xs=[]:=by cases xs with | nil=>rfl | cons a l=>simp at hrun
       subst this
       rfl
      | some a0 =>
       simp only[Builtin.firstCells,Nat.mul_one] at hrun
       rw[run_bytesToString w a0 _ _ xs (by simpa using hrun)]
       rfl
     ·simp at he
    ·simp at he
   ·simp at he
  ·simp at he
def Z6x (b:ByteArray):List Int:=b.data.toList.map fun c=>(c.toNat:Int)
theorem x_add64 {P:Program} {g:FuncId} {fn:Func} (hf:P.funcs[g]? = some fn) (hname:(fn.name == "runtime.NumGoroutine")=false) (hb:fn.body.isNone=true) (hn:Extern.findNext fn=none) (he:Extern.find fn=some add64Entry)
  {x y c:Int} (h:0≤x∧0≤y∧0≤c∧c≤1) (w:World) :
  (callFunc g ([.int .u64 x,.int .u64 y,.int .u64 c]:List Value).toArray).run P w = .ok (.value (.tuple #[.int .u64 ((x+y+c) % 18446744073709551616),.int .u64 ((x+y+c) / 18446744073709551616)])) w:=by
 rw[run_callFunc_extern hf hname hb hn he]
 have:=run_add64 (P:=P) x y c h.1 h.2.1 h.2.2.1 h.2.2.2 w
 simp only[this,Result.andThen_ok]
end Go.Pv
set_option linter.unusedVariables false
set_option linter.unusedSimpArgs false
namespace Go.Pv
theorem run_eql_slice {P:Program} {t e:TypeId} (ht:P.underlying t=some (.slice e)) (b:Option Addr) (n c n' c':Nat) (w:World) :
  (binOp .eql t (.slice b n c) (.slice none n' c')).run P w = .ok (.bool b.isNone) w:=by
 have h:(Op.equal t (.slice b n c) (.slice none n' c')).run P w = .ok b.isNone w:=by
  unfold Op.equal Op.maxDepth
  rw[Op.equalIn]
  cases b<;>simp only[Sem.run_bind,Zp ht,Result.andThen_ok,Sem.run_pure]<;>rfl
 show(do pure (.bool (← Op.equal t (.slice b n c) (.slice none n' c'))):Sem Value).run P w=_
 rw[Sem.run_bind,h];rfl
def nilA:AVal→Option Bool
 | .im (.row (_::_))=>some false
 | .im (.sc (.slice (some _) _ _))=>some false
 | .im (.sc (.slice none _ _))=>some true
 | _=>none
theorem nilA_rep {w:World} {I:Nat→Prop} {κ:Nat→Option KI} {x:AVal} {v:Value} {r:Bool} (h:nilA x=some r) (hr:Rep w I κ x v):∃ b n c,v = .slice b n c∧b.isNone=r:=by
 unfold nilA at h
 split at h
 ·obtain rfl:=Option.some.inj h
  cases hr with
  | im h=>cases h with
   | row u hn=>exact⟨_,_,_,rfl,rfl⟩
 ·obtain rfl:=Option.some.inj h;exact⟨_,_,_,hr.sc_inv,rfl⟩
 ·obtain rfl:=Option.some.inj h;exact⟨_,_,_,hr.sc_inv,rfl⟩
 ·simp at h
def xNil:Ext where
 f P o s:=match o.op with
  | .binOp .eql t x (.const (.slice none _ _)) _=>match P.underlying t,nilA (s.eval x) with
   | some (.slice _),some r=>some ⟨[],[],.im (.sc (.bool r)),[],[]⟩
   | _,_=>none
  | _=>none
 ok P o s e he hp:=by
  split at he
  ·rename_i t x n' c' _ ho
   split at he
   ·rename_i el r ht hr
    obtain rfl:=Option.some.inj he
    refine .quiet rfl fun Γ κ I s2 a w hP hrel hn => ?_
    have g:=opd hrel hn x (by simp[ho,Op.operands]) rfl
    obtain⟨b,n,c,e,rfl⟩:=nilA_rep hr g
    refine⟨.bool b.isNone,?_,.im (.sc _)⟩
    have hc:a.eval (.const (.slice none n' c')) = .slice none n' c':=rfl
    simp only[execOp,ho,e,hc,eqGuard]
    simp[run_eql_slice ht]
   ·simp at he
  ·simp at he
theorem AWp.nilSplit {Γ:Ctx} {c:Code} {Q:Exit→Zb→Prop} {s:Zb} (x:Nat) (hx:s.get x = .im (.row [])) (h:∀ b n,AWp Γ c Q (s.put (some x) (.im (.sc (.slice b 0 n))))):AWp Γ c Q s:=by
 intro a w hs
 obtain⟨κ,I,hr⟩:=hs
 have g:=hr.slots x
 rw[hx] at g
 have:∃ b n,a.tmps.getD x undef = .slice b 0 n:=by
  generalize a.tmps.getD x undef=v at g
  cases g with
  | im h=>cases h with
   | row0 b n=>exact⟨b,n,rfl⟩
   | row u hn=>subst hn;exact⟨_,_,rfl⟩
 obtain⟨b,n,e⟩:=this
 refine h b n a w ⟨κ,I,hr.size,hr.defers,fun y => ?_,hr.inv.eqv (fun k o hk=>by rwa [Zb.obj_put] at hk) rfl⟩
 rw[Zb.get_put]
 split
 ·rename_i hxy;subst hxy;rw[e];exact .im (.sc _)
 ·exact hr.slots y
theorem AWp.unsplit {Γ:Ctx} {c:Code} {Q:Exit→Zb→Prop} {s:Zb} (x:Nat) {b:Option Addr} {n:Nat} (hx:s.get x = .im (.sc (.slice b 0 n))) (h:AWp Γ c Q (s.put (some x) (.im (.row [])))):AWp Γ c Q s:=by
 intro a w hs
 obtain⟨κ,I,hr⟩:=hs
 have g:=hr.slots x
 rw[hx] at g
 have e:=g.sc_inv
 refine h a w ⟨κ,I,hr.size,hr.defers,fun y => ?_,hr.inv.eqv (fun k o hk=>by rwa [Zb.obj_put] at hk) rfl⟩
 rw[Zb.get_put]
 split
 ·rename_i hxy;subst hxy;rw[e];exact .im (.row0 b n)
 ·exact hr.slots y
theorem OpOK.frozen {P:Program} {o:Oper} {s:Zb} {keys news:List Nat} {post:List (Nat×Option MObj)} {k sz el:Nat} {es:List (List Im)} (h:OpOK P o (mkSp s o keys news (.own k) post))
  (hk:look post k=some (some (.row sz el es))):OpOK P o (mkSp s o keys news (.im (.row es)) ((k,none)::post)):=by
 intro Γ hP hd s2 a w hs hn hf K Q hK
 refine h Γ hP hd s2 a w hs hn hf K Q (fun a' w' hs'=>hK a' w' ?_)
 obtain⟨κ,I,hr⟩:=hs'
 have hact:∀ (res:AVal) (post:List (Nat×Option MObj)) (q:Nat),((mkSp s o keys news res post).act o.dst s2).obj q=(s2.objput post).obj q:=fun res post q=>Zb.obj_put _ _ _ _
 have hobjk:((mkSp s o keys news (.own k) post).act o.dst s2).obj k=some (.row sz el es):=by
  rw[hact];show(look (post++s2.objs) k).getD none=_
  rw[Z5h,hk];rfl
 have hO:=hr.inv.objs k _ hobjk
 let I':Nat→Prop:=fun b=>I b∨∃ ki,κ k=some ki∧ki.b=b
 have hI:∀ b,I b→I' b:=fun b h =>.inl h
 have hold:∀ k' q,((mkSp s o keys news (.im (.row es)) ((k,none)::post)).act o.dst s2).obj k'=some q→k'≠k∧((mkSp s o keys news (.own k) post).act o.dst s2).obj k'=some q:=by
  intro k' q hq
  rw[hact] at hq ⊢
  change (look ((k,none)::(post++s2.objs)) k').getD none=_ at hq
  change _∧(look (post++s2.objs) k').getD none=_
  rw[Z28] at hq
  by_cases e:k=k'
  ·rw[if_pos e] at hq;simp at hq
  ·rw[if_neg e] at hq;exact⟨fun h=>e h.symm,hq⟩
 have hnot:∀ k' q ki ki',k'≠k→((mkSp s o keys news (.own k) post).act o.dst s2).obj k'=some q→κ k'=some ki'→κ k=some ki→ki'.b≠ki.b:=by
  intro k' q ki ki' hne hq e1 e2 hb
  exact hne (hr.inv.inj k' k q _ ki' ki hq hobjk e1 e2 hb)
 refine⟨κ,I',hr.size,hr.defers,fun x => ?_,?_,?_,?_,?_,hr.inv.keep,fun b h =>.inl (hr.inv.ikeep b h),?_,?_,?_⟩
 ·have g:=hr.slots x
  revert g
  simp only[Sp.act,mkSp]
  cases o.dst with
  | none=>exact fun g=>g.mono hI (fun _ _=>rfl) (fun _ _=>rfl)
  | some d =>
   rw[Zb.get_put,Zb.get_put]
   by_cases e:d=x
   ·rw[if_pos e,if_pos e]
    intro g
    have:=Z2q (I':=I') (κc:=κ) (inv:=[]) (views:=[(k,es)]) hI (by intro a b h;simp[look] at h) (fun k' es' h=>by
     rw[Z28] at h
     split at h
     ·rename_i e';subst e';simp at h;subst h
      exact⟨⟨sz,el,hO⟩,fun ki e =>.inr ⟨ki,e,rfl⟩⟩
     ·simp[look] at h) g
    simpa[pass,look] using this
   ·rw[if_neg e,if_neg e]
    exact fun g=>g.mono hI (fun _ _=>rfl) (fun _ _=>rfl)
 ·intro k' q hq
  obtain⟨hne,hq⟩:=hold k' q hq
  have:=hr.inv.objs k' q hq
  unfold OAt at this ⊢
  cases e:κ k' with
  | none=>rw[e] at this;exact this
  | some ki=>rw[e] at this;exact this.mono hI (fun _ _=>rfl) rfl (fun _ _=>rfl)
 ·intro q1 q2 o1 o2 ki1 ki2 h1 h2 f1 f2 hb
  exact hr.inv.inj q1 q2 o1 o2 ki1 ki2 (hold q1 o1 h1).2 (hold q2 o2 h2).2 f1 f2 hb
 ·intro q o' ki hq f hIb
  obtain⟨hne,hq⟩:=hold q o' hq
  rcases hIb with hIb | ⟨ki',e1,e2⟩
  ·exact hr.inv.disj q o' ki hq f hIb
  ·exact hnot q o' ki' ki hne hq f e1 e2.symm
 ·intro b hIb
  rcases hIb with hIb | ⟨ki,e1,rfl⟩
  ·exact hr.inv.bound b hIb
  ·have:=hO
   simp only[OAt,e1] at this
   obtain⟨_,_,_,arr,h3,_⟩:=this
   exact(Array.getElem?_eq_some_iff.1 h3).1
 ·intro b hIb
  rcases hIb with hIb | ⟨ki,e1,rfl⟩
  ·exact hr.inv.fromI b hIb
  ·rcases hr.inv.fromO k _ ki hobjk e1 with h | h
   ·exact .inr (.inl h)
   ·exact .inr (.inr h)
 ·intro q o' ki hq f
  exact hr.inv.fromO q o' ki (hold q o' hq).2 f
 ·intro q hq
  refine hr.inv.fix q ?_
  have e1:((mkSp s o keys news (.im (.row es)) ((k,none)::post)).act o.dst s2).floor=s2.floor:=by cases o.dst<;>rfl
  have e2:((mkSp s o keys news (.own k) post).act o.dst s2).floor=s2.floor:=by cases o.dst<;>rfl
  rw[e1] at hq;rw[e2];exact hq
def xFz (h:Hint):Ext where
 f P o s:=match autoOp P h o s with
  | some e=>match e.res with
   | .own k=>match look e.post k with
    | some (some (.row sz el es))=>some ⟨e.keys,e.news,.im (.row es),(k,none)::e.post,e.props⟩
    | _=>none
   | _=>none
  | none=>none
 ok P o s e he hp:=by
  split at he
  ·rename_i e0 h0
   split at he
   ·rename_i k hk
    split at he
    ·rename_i sz el es hl
     obtain rfl:=Option.some.inj he
     have:=autoOp_ok h0 hp
     rw[hk] at this
     exact this.frozen hl
    ·simp at he
   ·simp at he
  ·simp at he
end Go.Pv
set_option linter.unusedVariables false
set_option linter.unusedSimpArgs false
namespace Go.Pv
def xMax:Ext where
 f P o s:=match o.op with
  | .call { callee:=.builtin .max,args:=⟨[x,y]⟩,argTypes:=ts }=>match s.eval x,s.eval y with
   | .im (.sc (.int k a)),.im (.sc (.int _ b))=>some ⟨[],[],.im (.sc (.int k (if b>a then b else a))),[],[]⟩
   | _,_=>none
  | _=>none
 ok P o s e he hp:=by
  split at he
  ·rename_i x y ts ho
   split at he
   ·rename_i k a k' b hx hy
    obtain rfl:=Option.some.inj he
    exact ok_pure _ [(x,.int k a),(y,.int k' b)] (by simp[ho,Op.operands,Call.operands,hx,hy]) (fun ρ hρ w=>by
     have h1:=hρ (x,.int k a) (by simp)
     have h2:=hρ (y,.int k' b) (by simp)
     simp only at h1 h2
     simp[execOp,ho,resolve,invoke,builtin,h1,h2,Builtin.max_,Builtin.max2])
   ·simp at he
  ·simp at he
def xMin:Ext where
 f P o s:=match o.op with
  | .call { callee:=.builtin .min,args:=⟨[x,y]⟩,argTypes:=ts }=>match s.eval x,s.eval y with
   | .im (.sc (.int k a)),.im (.sc (.int _ b))=>some ⟨[],[],.im (.sc (.int k (if b<a then b else a))),[],[]⟩
   | _,_=>none
  | _=>none
 ok P o s e he hp:=by
  split at he
  ·rename_i x y ts ho
   split at he
   ·rename_i k a k' b hx hy
    obtain rfl:=Option.some.inj he
    exact ok_pure _ [(x,.int k a),(y,.int k' b)] (by simp[ho,Op.operands,Call.operands,hx,hy]) (fun ρ hρ w=>by
     have h1:=hρ (x,.int k a) (by simp)
     have h2:=hρ (y,.int k' b) (by simp)
     simp only at h1 h2
     simp[execOp,ho,resolve,invoke,builtin,h1,h2,Builtin.min_,Builtin.min2])
   ·simp at he
  ·simp at he
def xFunc:Ext where
 f P o s:=match o.op with
  | .makeFunc (.func g) ⟨[]⟩ caps=>some ⟨[],[],.fn g (caps.toList.map s.eval),[],[]⟩
  | _=>none
 ok P o s e he hp:=by
  split at he
  ·rename_i g caps ho
   obtain rfl:=Option.some.inj he
   refine .quiet rfl fun Γ κ I s2 a w hP hrel hn => ?_
   refine⟨.func (.func g) #[] (caps.toList.map a.eval).toArray,?_,.fn (by simp) (fun j h h' => ?_)⟩
   ·simp[execOp,ho,Instr.makeFunc]
    rw[← Array.toList_inj];simp
   ·rw[List.getElem_map,List.getElem_map]
    exact opd hrel hn _ (by simp[ho,Op.operands]) rfl
  ·simp at he
def bytesOK (xs:List Int):Prop:=∀ x∈xs,0≤x∧x<256
instance (xs:List Int):Decidable (bytesOK xs):=inferInstanceAs (Decidable (∀ x∈xs,0≤x∧x<256))
end Go.Pv
set_option linter.unusedVariables false
set_option linter.unusedSimpArgs false
namespace Go.Pv
def xTake (k2:Nat) (es':List (List Im)):Ext where
 f P o s:=match o.op with
  | .slice t x none hi none=>match Z59   P t,s.eval x with
   | some (e,sz),.own k=>match s.obj k with
    | some (.row sz' el es)=>match optN s hi es.length,Nat.beq sz' sz with
     | some u,true=>some ⟨[k],[k2],.own k2,[(k2,some (.row sz el es')),(k,none)],[0≤u,u≤(es.length:Int),es'=es.take u.toNat]⟩
     | _,_=>none
    | _=>none
   | _,_=>none
  | _=>none
 ok P o s e he hp:=by
  split at he
  ·rename_i t x hi ho
   split at he
   ·rename_i e' sz k hel hx
    split at he
    ·rename_i sz' el es hk
     split at he
     ·rename_i u hu hsz
      obtain rfl:=Nat.eq_of_beq_eq_true hsz
      obtain rfl:=Option.some.inj he
      obtain⟨p1,p2,rfl,_⟩:=hp
      obtain⟨hun,ag,hag⟩:=Z3t hel
      refine .of fun Γ κ I s2 a w hP hrel hn hf => ?_
      have hfk:=hf k2 (by simp[mkSp])
      obtain⟨m1,m2,m3⟩:=Z6v (s:=s) ho
      have g1:=opd hrel hn x m1 hx
      have q1:optV ((none:Option Operand).map a.eval) 0 0:=Z4j hrel hn m2 (show optA s none 0 0 from rfl)
      have q2:=Z4j hrel hn m3 (Z7g hu)
      have hk2:=(Z21 hn k (by simp)).trans hk
      have hO:=hrel.inv.objs k _ hk2
      generalize ha:a.eval x=v at g1
      cases g1 with
      | own0 base eκ =>
       simp only[OAt,eκ] at hO
       obtain⟨_,_,e⟩:=hO
       simp at e
       obtain⟨rfl,rfl,rfl⟩:=e
       simp only[List.length_nil] at p2
       have hb:=Z2b (P:=P) (isSlice:=true) (len:=0) (cap:=0) q1 q2 (Int.le_refl 0) p1 (by omega) w
       have e2:u.toNat=0:=by omega
       have hkill:=hrel.inv.kill [(k,none)] (by intro p hp;simp at hp;subst hp;rfl)
       have hfk':(s2.objput [(k,none)]).fresh k2:=Z79 hfk (by intro p hp;simp at hp;subst hp;rfl)
       obtain⟨i1,i2⟩:=hkill.emptyRow (sz:=sz') (el:=el) hfk'
       refine⟨.slice base 0 0,_,w,setK κ k2 none,I,.inl rfl,?_,?_,fun _ h=>h,fun _ _=>rfl,fun x k' hk'=>i2 x k' hk',?_⟩
       ·rw[Option.map_none,e2] at hb
        simp only[Int.toNat_zero] at hb
        simp[execOp,ho,ha,Instr.sliceAt,Zp hun,Instr.slice,hb,Z15 hag,e2]
        try cases base<;>simp[Addr.add]
       ·rw[e2];exact i1
       ·exact .own0 base (Z1l ..)
      | @own _ ki eκ =>
       simp only[OAt,eκ] at hO
       have hO':=hO
       obtain⟨h1,h2,h3,arr,h4,h5,h6⟩:=hO
       have hb:=Z2b (P:=P) (isSlice:=true) (len:=ki.len) (cap:=ki.cap) q1 (by rw[h2];exact q2) (Int.le_refl 0) p1 (by omega) w
       let ki':KI:=⟨ki.b,ki.cap,sz',u.toNat⟩
       have hO2:ORep (World.setBlock w ki.b (.cells arr el (0,0))) I (setK κ k2 (some ki')) ki' (.row sz' el (es.take u.toNat)):=by
        rw[Z5e h4]
        refine⟨rfl,by simp[ki'];omega,by simp[ki'];omega,arr,h4,h5,fun i hi => ?_⟩
        simp only[List.length_take] at hi
        rw[List.getElem_take]
        exact h6 i (by omega)
       obtain⟨i1,i2,i3⟩:=hrel.inv.move hk2 eκ hfk (ki':=ki') rfl hO2
       rw[Z5e h4] at i1 i2
       refine⟨.slice (some ⟨ki.b,0,none⟩) u.toNat ki.cap,_,w,setK κ k2 (some ki'),I,.inl rfl,?_,i1,fun _ h=>h,fun _ _=>rfl,i3,?_⟩
       ·rw[Option.map_none] at hb
        simp only[Int.toNat_zero] at hb
        simp[execOp,ho,ha,Instr.sliceAt,Zp hun,Instr.slice,hb,Z15 hag]
        try simp[Addr.add]
       ·exact Rep.own (ki:=ki') (Z1l ..)
     ·simp at he
    ·simp at he
   ·simp at he
  ·simp at he
def xCutOwn (lo' n:Nat):Ext where
 f P o s:=match o.op with
  | .slice t x lo none none=>match Z59   P t,s.eval x with
   | some (e,sz),.own k=>match s.obj k with
    | some (.row sz' el es)=>match optN s lo 0,Nat.beq sz' sz with
     | some l,true=>some ⟨[k],[],.cut k lo' n,[],[l=(lo':Int),lo'+n=es.length]⟩
     | _,_=>none
    | _=>none
   | _,_=>none
  | _=>none
 ok P o s e he hp:=by
  split at he
  ·rename_i t x lo ho
   split at he
   ·rename_i e' sz k hel hx
    split at he
    ·rename_i sz' el es hk
     split at he
     ·rename_i l hl hsz
      obtain rfl:=Nat.eq_of_beq_eq_true hsz
      obtain rfl:=Option.some.inj he
      obtain⟨rfl,p2,_⟩:=hp
      obtain⟨hun,ag,hag⟩:=Z3t hel
      refine .quiet rfl fun Γ κ I s2 a w hP hrel hn => ?_
      obtain⟨m1,m2,m3⟩:=Z6v (s:=s) ho
      have g1:=opd hrel hn x m1 hx
      have q1:=Z4j hrel hn m2 (Z7g hl)
      have q2:optV ((none:Option Operand).map a.eval) (es.length:Int) es.length:=Z4j hrel hn m3 (show optA s none (es.length:Int) es.length from rfl)
      have hO:=hrel.inv.objs k _ ((Z21 hn k (by simp)).trans hk)
      generalize ha:a.eval x=v at g1
      cases g1 with
      | own0 base eκ =>
       simp only[OAt,eκ] at hO
       obtain⟨_,_,e⟩:=hO
       simp at e
       obtain⟨rfl,rfl,rfl⟩:=e
       simp only[List.length_nil] at p2 q2
       obtain rfl:lo'=0:=by omega
       obtain rfl:n=0:=by omega
       have hb:=Z2b (P:=P) (isSlice:=true) (len:=0) (cap:=0) q1 q2 (by simp) (by simp) (by simp) w
       refine⟨.slice base 0 0,?_,.cut0 base eκ⟩
       rw[Option.map_none] at hb
       simp at hb
       simp[execOp,ho,ha,Instr.sliceAt,Zp hun,Instr.slice,hb,Z15 hag]
       try (cases base<;>simp)
      | @own _ ki eκ =>
       simp only[OAt,eκ] at hO
       obtain⟨h1,h2,h3,arr,h4,h5,h6⟩:=hO
       have hb:=Z2b (P:=P) (isSlice:=true) (len:=ki.len) (cap:=ki.cap) q1 (by rw[h2];exact q2) (by omega) (by omega) (by omega) w
       have hn':es.length-lo'=n:=by omega
       rw[Option.map_none] at hb
       simp only[Int.toNat_natCast] at hb
       by_cases hc:ki.cap=lo'
       ·refine⟨.slice (some ⟨ki.b,0,none⟩) n (ki.cap-lo'),?_,.cut (off:=0) eκ (.inr hc.symm) (by omega)⟩
        rw[hc] at hb
        simp[execOp,ho,ha,Instr.sliceAt,Zp hun,Instr.slice,hb,Z15 hag,hc,hn']
       ·refine⟨.slice (some ⟨ki.b,lo'*sz',none⟩) n (ki.cap-lo'),?_,.cut (off:=lo'*sz') eκ (.inl (by rw[h1])) (by omega)⟩
        simp[execOp,ho,ha,Instr.sliceAt,Zp hun,Instr.slice,hb,Z15 hag,hc,hn',Z4c]
     ·simp at he
    ·simp at he
   ·simp at he
  ·simp at he
def xSub (lo' n:Nat):Ext where
 f P o s:=match o.op with
  | .slice t x lo hi none=>match Z59   P t,s.eval x with
   | some (e,sz),.own k=>match s.obj k with
    | some (.row sz' el es)=>match optN s lo 0,optN s hi es.length,Nat.beq sz' sz with
     | some l,some u,true=>some ⟨[k],[],.sub k lo' n,[],[l=(lo':Int),u=((lo'+n:Nat):Int),lo'+n≤es.length]⟩
     | _,_,_=>none
    | _=>none
   | _,_=>none
  | _=>none
 ok P o s e he hp:=by
  split at he
  ·rename_i t x lo hi ho
   split at he
   ·rename_i e' sz k hel hx
    split at he
    ·rename_i sz' el es hk
     split at he
     ·rename_i l u hl hu hsz
      obtain rfl:=Nat.eq_of_beq_eq_true hsz
      obtain rfl:=Option.some.inj he
      obtain⟨rfl,rfl,p2,_⟩:=hp
      obtain⟨hun,ag,hag⟩:=Z3t hel
      refine .quiet rfl fun Γ κ I s2 a w hP hrel hn => ?_
      obtain⟨m1,m2,m3⟩:=Z6v (s:=s) ho
      have g1:=opd hrel hn x m1 hx
      have q1:=Z4j hrel hn m2 (Z7g hl)
      have q2:=Z4j hrel hn m3 (Z7g hu)
      have hO:=hrel.inv.objs k _ ((Z21 hn k (by simp)).trans hk)
      generalize ha:a.eval x=v at g1
      cases g1 with
      | own0 base eκ =>
       simp only[OAt,eκ] at hO
       obtain⟨_,_,e⟩:=hO
       simp at e
       obtain⟨rfl,rfl,rfl⟩:=e
       simp only[List.length_nil] at p2 q2
       obtain rfl:lo'=0:=by omega
       obtain rfl:n=0:=by omega
       have hb:=Z2b (P:=P) (isSlice:=true) (len:=0) (cap:=0) q1 q2 (by simp) (by simp) (by simp) w
       refine⟨.slice base 0 0,?_,.sub0 base eκ⟩
       simp at hb
       simp[execOp,ho,ha,Instr.sliceAt,Zp hun,Instr.slice,hb,Z15 hag]
       try (cases base<;>simp)
      | @own _ ki eκ =>
       simp only[OAt,eκ] at hO
       obtain⟨h1,h2,h3,arr,h4,h5,h6⟩:=hO
       have hb:=Z2b (P:=P) (isSlice:=true) (len:=ki.len) (cap:=ki.cap) q1 (by rw[h2];exact q2) (by omega) (by omega) (by omega) w
       have hn':lo'+n-lo'=n:=by omega
       simp only[Int.toNat_natCast] at hb
       by_cases hc:ki.cap=lo'
       ·refine⟨.slice (some ⟨ki.b,0,none⟩) n (ki.cap-lo'),?_,.sub (off:=0) eκ (.inr hc.symm) (by omega) (by omega)⟩
        rw[hc] at hb
        simp[execOp,ho,ha,Instr.sliceAt,Zp hun,Instr.slice,hb,Z15 hag,hc,hn']
       ·refine⟨.slice (some ⟨ki.b,lo'*sz',none⟩) n (ki.cap-lo'),?_,.sub (off:=lo'*sz') eκ (.inl (by rw[h1])) (by omega) (by omega)⟩
        simp[execOp,ho,ha,Instr.sliceAt,Zp hun,Instr.slice,hb,Z15 hag,hc,hn',Z4c]
     ·simp at he
    ·simp at he
   ·simp at he
  ·simp at he
end Go.Pv
set_option linter.unusedVariables false
set_option linter.unusedSimpArgs false
namespace Go.Pv
def outSc (objs:List (Nat×Option MObj)):List (Nat×Nat)→Option (List Prop)
 | []=>some []
 | (kc,_)::r=>match (⟨[],objs,0⟩:Zb    ).obj kc,outSc objs r with
  | some (.row _ _ es),some l=>some ((∀ c∈es,∀ x∈c,∃ v,x=Im.sc v)::l)
  | none,some l=>some l
  | _,_=>none
theorem outSc_ok {objs:List (Nat×Option MObj)}:∀ {out:List (Nat×Nat)} {l:List Prop},outSc objs out=some l→AllP l→∀ kc k o,(kc,k)∈out→(⟨[],objs,0⟩:Zb).obj kc=some o→ScObj o:=by
 intro out
 induction out with
 | nil=>intro l _ _ kc k o hm;simp at hm
 | cons p r ih =>
  intro l h hp kc k o hm ho
  obtain⟨kp,k'⟩:=p
  simp only[outSc] at h
  split at h
  ·rename_i sz el es l' e1 e2
   obtain rfl:=Option.some.inj h
   simp only[AllP] at hp
   rcases List.mem_cons.1 hm with hm | hm
   ·obtain⟨rfl,rfl⟩:=Prod.mk.inj hm
    rw[e1] at ho
    obtain rfl:=Option.some.inj ho
    exact⟨sz,el,es,rfl,hp.1⟩
   ·exact ih e2 hp.2 kc k o hm ho
  ·rename_i l' e1 e2
   obtain rfl:=Option.some.inj h
   rcases List.mem_cons.1 hm with hm | hm
   ·obtain⟨rfl,rfl⟩:=Prod.mk.inj hm
    rw[e1] at ho;simp at ho
   ·exact ih e2 hp kc k o hm ho
  ·simp at h
def Z51 (inv out:List (Nat×Nat)) (vk:List Nat) (news:List Nat) (floor:Nat) (r:AVal) (objs:List (Nat×Option MObj)):Ext where
 f P o s:=match o.op with
  | .call { callee:=.value fo,args:=as,argTypes:=ts }=>match funOf (s.eval fo) with
   | some (g,caps)=>match Z72     s vk with
    | some views=>match Z67    inv out views news floor&&inv.all (fun p=>(s.obj p.1).isSome)&&Z4d   r with
     | true=>match outSc objs out with
      | some l=>some ⟨inv.map (·.1)++views.map (·.1),news,pass out [] r,Z5f     ⟨[],objs,0⟩ out inv (views.map (·.1)) true,
       Enters P g::Fn P g ((as.toList.map s.eval++caps).map (fun x=>rowed (pass inv views x))) (Z6t s inv views) floor (fun r' o'=>r'=r∧o'=objs)::l⟩
      | none=>none
     | false=>none
    | none=>none
   | _=>none
  | _=>none
 ok P o s e he hp:=by
  split at he
  ·rename_i fo as ts ho
   split at he
   ·rename_i g caps hfo
    split at he
    ·rename_i views hv
     split at he
     ·rename_i hb
      split at he
      ·rename_i l hl
       simp only[Bool.and_eq_true] at hb
       obtain⟨⟨b1,b2⟩,b3⟩:=hb
       obtain rfl:=Option.some.inj he
       simp only[AllP] at hp
       exact ok_callG inv out views news floor rowed (fun _ _ _ _ _ h=>rowed_rep h) ho hfo hp.1 rfl (Z71 hv) b2 b1 hp.2.1 true (fun _=>⟨b3,outSc_ok hl hp.2.2⟩)
      ·simp at he
     ·simp at he
    ·simp at he
   ·simp at he
  ·simp at he
theorem Z5n {α:Type} (xs:List α) (f:α→List Im) (h:∀ y,∀ x∈f y,∃ v,x=Im.sc v):∀ c∈xs.map f,∀ x∈c,∃ v,x=Im.sc v:=by
 intro c hc;obtain⟨y,_,rfl⟩:=List.mem_map.1 hc;exact h y
end Go.Pv
set_option linter.unusedVariables false
set_option linter.unusedSimpArgs false
namespace Go.Pv
theorem Z6g {z:Array Value} {n i j:Nat} (hi:i<n) (hj:j<z.size):(Builtin.zeroCells z n).toList[i*z.size+j]? = z[j]? := by
 have hlt:i*z.size+j<n*z.size:=Z55 hi hj
 have hm:(i*z.size+j) % z.size=j:=by rw[Nat.mul_comm,Nat.mul_add_mod,Nat.mod_eq_of_lt hj]
 simp only[Builtin.zeroCells,Array.toList_map,List.getElem?_map,Array.getElem?_toList]
 simp[hlt,hm,hj]
def xClear (es':List (List Im)):Ext where
 f P o s:=match o.op with
  | .call { callee:=.builtin .clear,args:=⟨[x]⟩,argTypes:=ts }=>match ts[0]? with
   | some t=>match Z59   P t,s.eval x with
    | some (e,sz),.cut k lo n=>match s.obj k,Z8e   P e with
     | some (.row sz' el es),some z=>match toImL (Z0m      z) with
      | some zs=>match Nat.beq sz' sz&&Nat.beq zs.length sz&&Z16    (Z0m      z)&&Nat.blt 0 sz with
       | true=>some ⟨[k],[],.top,[(k,some (.row sz' el es'))],[es'=es.take lo++List.replicate n zs,lo+n=es.length]⟩
       | false=>none
      | none=>none
     | _,_=>none
    | _,_=>none
   | none=>none
  | _=>none
 ok P o s e he hp:=by
  split at he
  ·rename_i x ts ho
   split at he
   ·rename_i t hts
    split at he
    ·rename_i el0 sz k lo n hel hx
     split at he
     ·rename_i sz' el es z hk hz
      split at he
      ·rename_i zs hzs
       split at he
       ·rename_i hb
        simp only[Bool.and_eq_true,Nat.blt_eq] at hb
        obtain⟨⟨⟨b1,b2⟩,b3⟩,b4⟩:=hb
        obtain rfl:=Nat.eq_of_beq_eq_true b1
        have b2:=Nat.eq_of_beq_eq_true b2
        obtain rfl:=Option.some.inj he
        obtain⟨rfl,p2,_⟩:=hp
        obtain⟨hun,ag,hag⟩:=Z3t hel
        obtain⟨i0,zv,hinfo,hzero,hzc⟩:∃ i zv,P.info? el0=some i∧i.zero=some zv∧z=Z68 zv:=by
         unfold Z8e at hz
         cases hi:P.info? el0 with
         | none=>rw[hi] at hz;simp at hz
         | some i =>
          cases hzz:i.zero with
          | none=>rw[hi] at hz;simp[hzz] at hz
          | some zv=>rw[hi] at hz;simp[hzz] at hz;exact⟨i,zv,rfl,hzz,hz.symm⟩
        subst hzc
        obtain⟨t1,t2⟩:=Z6h hzs
        refine .of fun Γ κ I s2 a w hP hrel hn hf => ?_
        have g1:=opd hrel hn x (by simp[ho,Op.operands,Call.operands]) hx
        have hk2:=(Z21 hn k (by simp)).trans hk
        have hO:=hrel.inv.objs k _ hk2
        have same:es.take lo++List.replicate n zs=es→Inv Γ κ I (s2.objput [(k,some (.row sz' el (es.take lo++List.replicate n zs)))]) w:=by
         intro e
         rw[e]
         refine hrel.inv.eqv (fun k' o' h => ?_) rfl
         rw[Zb.obj_objput,Z28] at h
         by_cases ek:k=k'
         ·subst ek;rw[if_pos rfl] at h;simp at h;rw[← h];exact hk2
         ·rw[if_neg ek] at h;simpa[look] using h
        generalize ha:a.eval x=v at g1
        cases g1 with
        | cut0 base eκ =>
         simp only[OAt,eκ] at hO
         obtain⟨_,_,e⟩:=hO
         simp at e
         obtain⟨rfl,rfl,rfl⟩:=e
         refine⟨.tuple #[],_,w,κ,I,.inl rfl,?_,same (by simp),fun _ h=>h,fun _ _=>rfl,fun _ _ _=>rfl,.top _⟩
         simp only[execOp,ho,resolve,Deferred.ofValue,Sem.run_bind,Sem.run_pure,Result.andThen_ok,invoke,builtin]
         cases base<;>simp[ha,Builtin.clear_,hts,Zp hun]
        | @cut _ _ _ off ki eκ h1 h2 =>
         simp only[OAt,eκ] at hO
         obtain⟨c1,c2,c3,arr,c4,c5,c6⟩:=hO
         by_cases hn0:n=0
         ·subst hn0
          refine⟨.tuple #[],_,w,κ,I,.inl rfl,?_,same (by rw[List.take_of_length_le (by omega)];simp),fun _ h=>h,fun _ _=>rfl,fun _ _ _=>rfl,.top _⟩
          simp[execOp,ho,resolve,invoke,builtin,ha,Builtin.clear_,hts,Zp hun]
         have hoff:off=lo*sz':=by
          rcases h1 with h1 | h1
          ·rw[h1,c1]
          ·exfalso;exact hn0 (by omega)
         subst hoff
         obtain⟨v1,v2,v3⟩:=Z2w (Z5a w I κ zv) b3
         have hzsz:zv.cells.size=sz':=by rw[v1,← t1,b2]
         let vs:=(Builtin.zeroCells zv.cells n).toList
         have hvl:vs.length=n*sz':=by simp[vs,Z64,hzsz]
         have hleaf:∀ u∈vs,Z7q u=true:=by
          intro u hu
          obtain⟨q,hq,rfl⟩:=List.mem_iff_getElem.1 hu
          rw[hvl] at hq
          have hm:q % sz'<sz':=Nat.mod_lt _ b4
          have hd:q / sz'<n:=Nat.div_lt_of_lt_mul (by rw[Nat.mul_comm];exact hq)
          have hg:=Z6g (z:=zv.cells) (n:=n) (i:=q / sz') (j:=q % sz') hd (by rw[hzsz];exact hm)
          rw[hzsz,Nat.div_add_mod' q sz'] at hg
          have hq2:vs[q]? = some vs[q]:=List.getElem?_eq_getElem (by rw[hvl];exact hq)
          have:zv.cells[q % sz']? = some vs[q]:=by rw[← hg];exact hq2
          exact v3 _ (Array.mem_toList_iff.2 (Array.mem_of_getElem? this))
         have hbound:lo*sz'+vs.length≤arr.size:=by
          rw[hvl,c5,← Nat.add_mul];exact Nat.mul_le_mul_right _ h2
         let ob:Obj:=.cells (Z20 arr (lo*sz') vs) el (0,0)
         have hb:ki.b<w.heap.size:=(Array.getElem?_eq_some_iff.1 c4).1
         have hne:∀ b,I b→(World.setBlock w ki.b ob).heap[b]? = w.heap[b]? := fun b hb'=>by
          rw[Z1r _ _ _ _ hb,if_neg]
          rintro rfl
          exact hrel.inv.disj k _ ki hk2 eκ hb'
         have hrun:(Builtin.clear_ ts o.type #[.slice (some ⟨ki.b,lo*sz',none⟩) n (ki.cap-lo)]).run P w = .ok (.tuple #[]) (World.setBlock w ki.b ob):=by
          have hst:=Z4s (P:=P) (b:=ki.b) (el:=el) vs w arr (lo*sz') c4 hbound hleaf
          obtain⟨m,rfl⟩:∃ m,n=m+1:=⟨n-1,by omega⟩
          have hz':(zeroValue el0).run P w = .ok zv w:=by simp[zeroValue,Z1u hinfo,hzero]
          simp only[Builtin.clear_,hts]
          simp[Zp hun,hz',ob,vs] at hst ⊢
          rw[hst];rfl
         have hO:ORep (World.setBlock w ki.b ob) I κ ki (.row sz' el (es.take lo++List.replicate n zs)):=by
          refine⟨c1,by simp;omega,by simp;omega,Z20 arr (lo*sz') vs,by rw[Z1r _ _ _ _ hb,if_pos rfl],by rw[Z3o];exact c5,fun i hi => ?_⟩
          simp only[List.length_append,List.length_take,List.length_replicate] at hi
          by_cases hlt:i<lo
          ·rw[List.getElem_append_left (by simp;omega),List.getElem_take]
           obtain⟨q1,q2⟩:=c6 i (by omega)
           refine⟨q1,fun j hj => ?_⟩
           obtain⟨u,u1,u2⟩:=q2 j hj
           refine⟨u,?_,u2.mono (fun _ h=>h) hne⟩
           rw[Z2y _ _ _ _ hbound,if_neg]
           ·exact u1
           ·have:=Z55 hlt (show j<sz' by omega);omega
          ·rw[List.getElem_append_right (by simp;omega),List.getElem_replicate]
           refine⟨b2,fun j hj => ?_⟩
           rw[b2] at hj
           obtain⟨u,u1,u2⟩:=v2 j (by omega)
           refine⟨u,?_,(Z7s u2 (t2 j (by omega) (by omega))).mono (fun _ h=>h) hne⟩
           have hil:i-lo<n:=by omega
           have e1:i*sz'+j-lo*sz'=(i-lo)*sz'+j:=by
            rw[Nat.sub_mul]
            have:=Nat.mul_le_mul_right sz' (show lo≤i by omega)
            omega
           have e2:=Z55 hil hj
           have e3:=Nat.mul_le_mul_right sz' (show lo≤i by omega)
           rw[Z2y _ _ _ _ hbound,if_pos (by rw[hvl];omega),e1]
           have hg:=Z6g (z:=zv.cells) (n:=n) (i:=i-lo) (j:=j) hil (by rw[hzsz];exact hj)
           rw[hzsz] at hg
           show vs[(i-lo)*sz'+j]? = some u
           rw[hg];exact u1
         obtain⟨f1,f2⟩:=hrel.inv.update hk2 eκ hO
         refine⟨.tuple #[],_,_,κ,I,.inl rfl,?_,f1,fun _ h=>h,f2,fun _ _ _=>rfl,.top _⟩
         simp only[execOp,ho,resolve,Deferred.ofValue,Sem.run_bind,Sem.run_pure,Result.andThen_ok,invoke,builtin]
         simp[ha,hrun]
       ·simp at he
      ·simp at he
     ·simp at he
    ·simp at he
   ·simp at he
  ·simp at he
end Go.Pv
set_option linter.unusedVariables false
set_option linter.unusedSimpArgs false
namespace Go.Pv
def xMake (k:Nat) (es':List (List Im)):Ext where
 f P o s:=match o.op with
  | .makeSlice t x y=>match Z59   P t,s.eval x,s.eval y with
   | some (e,sz),.im (.sc (.int _ l)),.im (.sc (.int _ c))=>match Z4x    P e,Z8e   P e with
    | some (by_,sz2),some z=>match toImL (Z0m      z) with
     | some zs=>match Nat.beq sz2 sz&&Z16    (Z0m      z) with
      | true=>some ⟨[],[k],.own k,[(k,some (.row sz e es'))],[es'=List.replicate l.toNat zs,0≤l,l≤c,(by_:Int)*c≤281474976710656,c≤9223372036854775807]⟩
      | false=>none
     | none=>none
    | _,_=>none
   | _,_,_=>none
  | _=>none
 ok P o s e he hp:=by
  split at he
  ·rename_i t x y ho
   split at he
   ·rename_i el sz kl l kc c hel hx hy
    split at he
    ·rename_i by_ sz2 z hby hz
     split at he
     ·rename_i zs hzs
      split at he
      ·rename_i hb
       simp only[Bool.and_eq_true] at hb
       obtain⟨b1,b3⟩:=hb
       obtain rfl:=Nat.eq_of_beq_eq_true b1
       obtain rfl:=Option.some.inj he
       obtain⟨rfl,p2,p3,p4,p5,_⟩:=hp
       obtain⟨hun,ag,hag⟩:=Z3t hel
       obtain⟨i0,zv,hinfo,hzero,hbytes,hsize,hzcs⟩:=Z5b hby
       obtain rfl:Z68 zv=z:=by
        unfold Z8e at hz;rw[hinfo] at hz;simp[hzero] at hz;exact hz
       obtain⟨t1,t2⟩:=Z6h hzs
       refine .of fun Γ κ I s2 a w hP hr hn hf => ?_
       have hfk:=hf k (by simp[mkSp])
       have g1:=(opd hr hn x (by simp[ho,Op.operands]) hx).sc_inv
       have g2:=(opd hr hn y (by simp[ho,Op.operands]) hy).sc_inv
       obtain⟨v1,v2,v3⟩:=Z2w (Z5a w I κ zv) b3
       have hzl:zs.length=sz2:=by rw[t1,← v1,hzcs]
       let ki:KI:=⟨w.heap.size,c.toNat,sz2,l.toNat⟩
       let ob:Obj:=.cells (madeCells zv.cells (c.toNat*i0.size)) el
       have hrun:(Instr.makeSlice t (.int kl l) (.int kc c)).run P w = .ok (.slice (some ⟨w.heap.size,0,none⟩) l.toNat c.toNat) (World.alloc' w ob) :=
        run_make w t el i0 zv hun hinfo hzero kl kc l c p2 p3 (by rw[hbytes];exact p4) p5
       have hO:ORep (World.alloc' w ob) I (setK κ k (some ki)) ki (.row sz2 el (List.replicate l.toNat zs)):=by
        refine⟨rfl,by simp[ki],by simp[ki];omega,madeCells zv.cells (c.toNat*i0.size),Z4v _ _,by rw[size_madeCells,hsize],fun i hi => ?_⟩
        simp only[List.length_replicate] at hi
        rw[List.getElem_replicate]
        refine⟨hzl,fun j hj => ?_⟩
        rw[hzl] at hj
        obtain⟨u,u1,u2⟩:=v2 j (by omega)
        refine⟨u,?_,(Z7s u2 (t2 j (by omega) (by omega))).mono (fun _ h=>h) (fun b hb=>Z45 _ _ _ (hr.inv.bound b hb))⟩
        have hlt:i*sz2+j<c.toNat*sz2:=Z55 (by omega) hj
        have hm:(i*sz2+j) % sz2=j:=by rw[Nat.mul_comm,Nat.mul_add_mod,Nat.mod_eq_of_lt hj]
        have hcs:j<zv.cells.size:=by omega
        rw[← u1]
        simp only[madeCells,hsize,hzcs]
        simp[hlt,hm,hcs]
       obtain⟨f1,f2,f3⟩:=hr.inv.alloc hfk (ki:=ki) rfl hO
       refine⟨_,_,_,_,I,.inl rfl,?_,f1,fun _ h=>h,f2,f3,.own (ki:=ki) (Z1l ..)⟩
       simp[execOp,ho,g1,g2,hrun,ki]
      ·simp at he
     ·simp at he
    ·simp at he
   ·simp at he
  ·simp at he
end Go.Pv
