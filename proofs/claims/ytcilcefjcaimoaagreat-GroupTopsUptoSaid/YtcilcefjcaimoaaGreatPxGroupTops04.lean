import Derived.Laws.IdiomCopy
import Derived.Laws.MakeOwn
import Derived.Lib.MakeNoZero
import Derived.Maps.RangeRun
import Derived.Maps.RangeWalk
import Derived.Test.YtcilcefjcaimoaaGreatPxGroupTops03
set_option linter.unusedVariables false
set_option linter.unusedSimpArgs false
namespace Go.Pv
theorem Z6w {z:Array Value} {n i j:Nat} (hi:i<n) (hj:j<z.size):(Builtin.zeroCells z n).toList[i*z.size+j]? = z[j]? := by
 have hlt:i*z.size+j<n*z.size:=Z6k hi hj;have hm:(i*z.size+j) % z.size=j:=by rw[Nat.mul_comm,Nat.mul_add_mod,Nat.mod_eq_of_lt hj]
 simp only[Builtin.zeroCells,Array.toList_map,List.getElem?_map,Array.getElem?_toList];simp[hlt,hm,hj]
def xClear (es':List (List Im)):Ext where
 f P o s:=match o.op with
  | .call { callee:=.builtin .clear,args:=⟨[x]⟩,argTypes:=ts }=>match ts[0]? with
   | some t=>match Z5p   P t,s.eval x with
    | some (e,sz),.cut k lo n=>match s.obj k,Z8a   P e with
     | some (.row sz' el es),some z=>match toImL (Z0i      z) with
      | some zs=>match Nat.beq sz' sz&&Nat.beq zs.length sz&&Z28    (Z0i      z)&&Nat.blt 0 sz with
       | true=>some ⟨[k],[],.top,[(k,some (.row sz' el es'))],[es'=es.take lo++List.replicate n zs,lo+n=es.length]⟩
       | false=>none
      | none=>none
     | _,_=>none
    | _,_=>none
   | none=>none
  | _=>none
 ok P o s e he hp:=by
  split at he
  ·rename_i x ts ho
   split at he
   ·rename_i t hts
    split at he
    ·rename_i el0 sz k lo n hel hx
     split at he
     ·rename_i sz' el es z hk hz
      split at he
      ·rename_i zs hzs
       split at he
       ·rename_i hb
        simp only[Bool.and_eq_true,Nat.blt_eq] at hb;obtain⟨⟨⟨b1,b2⟩,b3⟩,b4⟩:=hb;obtain rfl:=Nat.eq_of_beq_eq_true b1;have b2:=Nat.eq_of_beq_eq_true b2;obtain rfl:=Option.some.inj he;obtain⟨rfl,p2,_⟩:=hp;obtain⟨hun,ag,hag⟩:=Z3w hel;obtain⟨i0,zv,hinfo,hzero,hzc⟩:∃ i zv,P.info? el0=some i∧i.zero=some zv∧z=Z6m zv:=by
         unfold Z8a at hz;cases hi:P.info? el0 with
         | none=>rw[hi] at hz;simp at hz
         | some i =>
          cases hzz:i.zero with
          | none=>rw[hi] at hz;simp[hzz] at hz
          | some zv=>rw[hi] at hz;simp[hzz] at hz;exact⟨i,zv,rfl,hzz,hz.symm⟩
        subst hzc;obtain⟨t1,t2⟩:=Z6x hzs;refine .of fun Γ κ I s2 a w hP hrel hn hf => ?_;have g1:=opd hrel hn x (by simp[ho,Op.operands,Call.operands]) hx;have hk2:=(Z1j hn k (by simp)).trans hk;have hO:=hrel.inv.objs k _ hk2;have same:es.take lo++List.replicate n zs=es→Inv Γ κ I (s2.objput [(k,some (.row sz' el (es.take lo++List.replicate n zs)))]) w:=by
         intro e;rw[e];refine hrel.inv.eqv (fun k' o' h => ?_) rfl;rw[Z0.obj_objput,Z0n] at h;by_cases ek:k=k'
         ·subst ek;rw[if_pos rfl] at h;simp at h;rw[← h];exact hk2
         ·rw[if_neg ek] at h;simpa[look] using h
        generalize ha:a.eval x=v at g1;cases g1 with
        | cut0 base eκ =>
         simp only[OAt,eκ] at hO;obtain⟨_,_,e⟩:=hO;simp at e;obtain⟨rfl,rfl,rfl⟩:=e;refine⟨.tuple #[],_,w,κ,I,.inl rfl,?_,same (by simp),fun _ h=>h,fun _ _=>rfl,fun _ _ _=>rfl,.top _⟩;simp only[execOp,ho,resolve,Deferred.ofValue,Sem.run_bind,Sem.run_pure,Result.andThen_ok,invoke,builtin];cases base<;>simp[ha,Builtin.clear_,hts,Zl hun]
        | @cut _ _ _ off ki eκ h1 h2 =>
         simp only[OAt,eκ] at hO;obtain⟨c1,c2,c3,arr,c4,c5,c6⟩:=hO;by_cases hn0:n=0
         ·subst hn0
          refine⟨.tuple #[],_,w,κ,I,.inl rfl,?_,same (by rw[List.take_of_length_le (by omega)];simp),fun _ h=>h,fun _ _=>rfl,fun _ _ _=>rfl,.top _⟩;simp[execOp,ho,resolve,invoke,builtin,ha,Builtin.clear_,hts,Zl hun]
         have hoff:off=lo*sz':=by
          rcases h1 with h1 | h1
          ·rw[h1,c1]
          ·exfalso;exact hn0 (by omega)
         subst hoff;obtain⟨v1,v2,v3⟩:=Z2o (Z4p w I κ zv) b3;have hzsz:zv.cells.size=sz':=by rw[v1,← t1,b2]
         let vs:=(Builtin.zeroCells zv.cells n).toList
         have hvl:vs.length=n*sz':=by simp[vs,Z6e,hzsz]
         have hleaf:∀ u∈vs,Za5 u=true:=by
          intro u hu;obtain⟨q,hq,rfl⟩:=List.mem_iff_getElem.1 hu;rw[hvl] at hq;have hm:q % sz'<sz':=Nat.mod_lt _ b4;have hd:q / sz'<n:=Nat.div_lt_of_lt_mul (by rw[Nat.mul_comm];exact hq);have hg:=Z6w (z:=zv.cells) (n:=n) (i:=q / sz') (j:=q % sz') hd (by rw[hzsz];exact hm);rw[hzsz,Nat.div_add_mod' q sz'] at hg;have hq2:vs[q]? = some vs[q]:=List.getElem?_eq_getElem (by rw[hvl];exact hq);have:zv.cells[q % sz']? = some vs[q]:=by rw[← hg];exact hq2
          exact v3 _ (Array.mem_toList_iff.2 (Array.mem_of_getElem? this))
         have hbound:lo*sz'+vs.length≤arr.size:=by
          rw[hvl,c5,← Nat.add_mul];exact Nat.mul_le_mul_right _ h2
         let ob:Obj:=.cells (Z13 arr (lo*sz') vs) el (0,0)
         have hb:ki.b<w.heap.size:=(Array.getElem?_eq_some_iff.1 c4).1;have hne:∀ b,I b→(World.setBlock w ki.b ob).heap[b]? = w.heap[b]? := fun b hb'=>by
          rw[Z0d _ _ _ _ hb,if_neg];rintro rfl;exact hrel.inv.disj k _ ki hk2 eκ hb'
         have hrun:(Builtin.clear_ ts o.type #[.slice (some ⟨ki.b,lo*sz',none⟩) n (ki.cap-lo)]).run P w = .ok (.tuple #[]) (World.setBlock w ki.b ob):=by
          have hst:=Z5r (P:=P) (b:=ki.b) (el:=el) vs w arr (lo*sz') c4 hbound hleaf;obtain⟨m,rfl⟩:∃ m,n=m+1:=⟨n-1,by omega⟩
          have hz':(zeroValue el0).run P w = .ok zv w:=by simp[zeroValue,Z16 hinfo,hzero]
          simp only[Builtin.clear_,hts];simp[Zl hun,hz',ob,vs] at hst ⊢;rw[hst];rfl
         have hO:ORep (World.setBlock w ki.b ob) I κ ki (.row sz' el (es.take lo++List.replicate n zs)):=by
          refine⟨c1,by simp;omega,by simp;omega,Z13 arr (lo*sz') vs,by rw[Z0d _ _ _ _ hb,if_pos rfl],by rw[Z1d];exact c5,fun i hi => ?_⟩;simp only[List.length_append,List.length_take,List.length_replicate] at hi;by_cases hlt:i<lo
          ·rw[List.getElem_append_left (by simp;omega),List.getElem_take]
           obtain⟨q1,q2⟩:=c6 i (by omega);refine⟨q1,fun j hj => ?_⟩;obtain⟨u,u1,u2⟩:=q2 j hj;refine⟨u,?_,u2.mono (fun _ h=>h) hne⟩;rw[Z1h _ _ _ _ hbound,if_neg]
           ·exact u1
           ·have:=Z6k hlt (show j<sz' by omega);omega
          ·rw[List.getElem_append_right (by simp;omega),List.getElem_replicate]
           refine⟨b2,fun j hj => ?_⟩;rw[b2] at hj;obtain⟨u,u1,u2⟩:=v2 j (by omega);refine⟨u,?_,(Z8i u2 (t2 j (by omega) (by omega))).mono (fun _ h=>h) hne⟩;have hil:i-lo<n:=by omega
           have e1:i*sz'+j-lo*sz'=(i-lo)*sz'+j:=by
            rw[Nat.sub_mul];have:=Nat.mul_le_mul_right sz' (show lo≤i by omega);omega
           have e2:=Z6k hil hj;have e3:=Nat.mul_le_mul_right sz' (show lo≤i by omega);rw[Z1h _ _ _ _ hbound,if_pos (by rw[hvl];omega),e1];have hg:=Z6w (z:=zv.cells) (n:=n) (i:=i-lo) (j:=j) hil (by rw[hzsz];exact hj);rw[hzsz] at hg;show vs[(i-lo)*sz'+j]? = some u;rw[hg];exact u1
         obtain⟨f1,f2⟩:=hrel.inv.update hk2 eκ hO;refine⟨.tuple #[],_,_,κ,I,.inl rfl,?_,f1,fun _ h=>h,f2,fun _ _ _=>rfl,.top _⟩;simp only[execOp,ho,resolve,Deferred.ofValue,Sem.run_bind,Sem.run_pure,Result.andThen_ok,invoke,builtin];simp[ha,hrun]
       ·simp at he
      ·simp at he
     ·simp at he
    ·simp at he
   ·simp at he
  ·simp at he
def xMake (k:Nat) (es':List (List Im)):Ext where
 f P o s:=match o.op with
  | .makeSlice t x y=>match Z5p   P t,s.eval x,s.eval y with
   | some (e,sz),.im (.sc (.int _ l)),.im (.sc (.int _ c))=>match Z5o    P e,Z8a   P e with
    | some (by_,sz2),some z=>match toImL (Z0i      z) with
     | some zs=>match Nat.beq sz2 sz&&Z28    (Z0i      z) with
      | true=>some ⟨[],[k],.own k,[(k,some (.row sz e es'))],[es'=List.replicate l.toNat zs,0≤l,l≤c,(by_:Int)*c≤281474976710656,c≤9223372036854775807]⟩
      | false=>none
     | none=>none
    | _,_=>none
   | _,_,_=>none
  | _=>none
 ok P o s e he hp:=by
  split at he
  ·rename_i t x y ho
   split at he
   ·rename_i el sz kl l kc c hel hx hy
    split at he
    ·rename_i by_ sz2 z hby hz
     split at he
     ·rename_i zs hzs
      split at he
      ·rename_i hb
       simp only[Bool.and_eq_true] at hb;obtain⟨b1,b3⟩:=hb;obtain rfl:=Nat.eq_of_beq_eq_true b1;obtain rfl:=Option.some.inj he;obtain⟨rfl,p2,p3,p4,p5,_⟩:=hp;obtain⟨hun,ag,hag⟩:=Z3w hel;obtain⟨i0,zv,hinfo,hzero,hbytes,hsize,hzcs⟩:=Z5a hby;obtain rfl:Z6m zv=z:=by
        unfold Z8a at hz;rw[hinfo] at hz;simp[hzero] at hz;exact hz
       obtain⟨t1,t2⟩:=Z6x hzs;refine .of fun Γ κ I s2 a w hP hr hn hf => ?_;have hfk:=hf k (by simp[mkSp]);have g1:=(opd hr hn x (by simp[ho,Op.operands]) hx).sc_inv;have g2:=(opd hr hn y (by simp[ho,Op.operands]) hy).sc_inv;obtain⟨v1,v2,v3⟩:=Z2o (Z4p w I κ zv) b3;have hzl:zs.length=sz2:=by rw[t1,← v1,hzcs]
       let ki:KI:=⟨w.heap.size,c.toNat,sz2,l.toNat⟩
       let ob:Obj:=.cells (madeCells zv.cells (c.toNat*i0.size)) el
       have hrun:(Instr.makeSlice t (.int kl l) (.int kc c)).run P w = .ok (.slice (some ⟨w.heap.size,0,none⟩) l.toNat c.toNat) (World.alloc' w ob) :=
        run_make w t el i0 zv hun hinfo hzero kl kc l c p2 p3 (by rw[hbytes];exact p4) p5
       have hO:ORep (World.alloc' w ob) I (setK κ k (some ki)) ki (.row sz2 el (List.replicate l.toNat zs)):=by
        refine⟨rfl,by simp[ki],by simp[ki];omega,madeCells zv.cells (c.toNat*i0.size),Z4s _ _,by rw[size_madeCells,hsize],fun i hi => ?_⟩;simp only[List.length_replicate] at hi;rw[List.getElem_replicate];refine⟨hzl,fun j hj => ?_⟩;rw[hzl] at hj;obtain⟨u,u1,u2⟩:=v2 j (by omega);refine⟨u,?_,(Z8i u2 (t2 j (by omega) (by omega))).mono (fun _ h=>h) (fun b hb=>Z4c _ _ _ (hr.inv.bound b hb))⟩;have hlt:i*sz2+j<c.toNat*sz2:=Z6k (by omega) hj;have hm:(i*sz2+j) % sz2=j:=by rw[Nat.mul_comm,Nat.mul_add_mod,Nat.mod_eq_of_lt hj]
        have hcs:j<zv.cells.size:=by omega
        rw[← u1];simp only[madeCells,hsize,hzcs];simp[hlt,hm,hcs]
       obtain⟨f1,f2,f3⟩:=hr.inv.alloc hfk (ki:=ki) rfl hO;refine⟨_,_,_,_,I,.inl rfl,?_,f1,fun _ h=>h,f2,f3,.own (ki:=ki) (Z0q ..)⟩;simp[execOp,ho,g1,g2,hrun,ki]
      ·simp at he
     ·simp at he
    ·simp at he
   ·simp at he
  ·simp at he
end Go.Pv
namespace Go.Pv
open Go.Instr
def hit {K:Type} [DecidableEq K] (a:K):List K→List MapEntry→Nat→Option (Nat×Value)
 | k::ks,e::es,i=>if k=a then some (i,e.val) else hit a ks es (i+1)
 | _,_,_=>none
structure Za3 (P:Program) (t:TypeId) {K:Type} [DecidableEq K] (vk:K→Value):Prop where
 check:∀ b a w,(checkKey b 10000 t (vk a)).run P w = .ok () w
 find:∀ a (es:List MapEntry) (ks:List K) w,es.map (·.key)=ks.map vk→(findKey t (vk a) es).run P w = .ok (hit a ks es 0) w
 same:∀ a w,(keyThatStays (vk a) (vk a)).run P w = .ok (vk a) w
theorem Zal {K:Type} [DecidableEq K] {d:TypeDesc} {vk:K→Value} (h:∀ a b,sameNow d (vk a) (vk b)=some (decide (b=a))) (a:K):∀ (es:List MapEntry) (ks:List K) (i:Nat),es.map (·.key)=ks.map vk→findNow d (vk a) es i=some (hit a ks es i)
 | [],[],i,_=>by simp[findNow,hit]
 | [],k::ks,i,e=>by simp at e
 | e::es,[],i,q=>by simp at q
 | e::es,k::ks,i,q=>by
  simp only[List.map_cons,List.cons.injEq] at q;rw[findNow,q.1,h,hit];by_cases c:k=a
  ·simp[c]
  ·simp[c,Zal h a es ks (i+1) q.2]
theorem key_plain {K:Type} [DecidableEq K] {P:Program} {t:TypeId} {d:TypeDesc} {vk:K→Value} (ht:P.underlying t=some d) (hc:∀ b a w,(checkKey b 10000 t (vk a)).run P w = .ok () w) (h:∀ a b,sameNow d (vk a) (vk b)=some (decide (b=a)))
  (hs:∀ a,sameBits 10000 (vk a) (vk a)=true):Za3 P t vk where
 check:=hc
 find a es ks w q:=by
  simp only[findKey,Sem.run_bind,Zl ht,Result.andThen_ok,Zal h a es ks 0 q,Sem.run_pure]
 same a w:=by simp[keyThatStays,hs]
def mE {K V:Type} (vk:K→Value) (iv:V→Im) (l:List (K×V)):List (Value×Im):=l.map fun p=>(vk p.1,iv p.2)
def mput {K V:Type} [DecidableEq K]:List (K×V)→K→V→List (K×V)
 | [],k,v=>[(k,v)]
 | p::l,k,v=>if p.1=k then(k,v)::l else p::mput l k v
def mget {K V:Type} [DecidableEq K]:List (K×V)→K→Option V
 | [],_=>none
 | p::l,k=>if p.1=k then some p.2 else mget l k
theorem hit_ok {K V:Type} [DecidableEq K] (k:K):∀ (l:List (K×V)) (E:List MapEntry) (off:Nat),E.length=l.length →
  (hit k (l.map (·.1)) E off=none∧mget l k=none∧∀ v,mput l k v=l++[(k,v)]) ∨
  ∃ i e p,E[i]? = some e∧l[i]? = some p∧p.1=k∧hit k (l.map (·.1)) E off=some (off+i,e.val)∧mget l k=some p.2∧∀ v,mput l k v=l.set i (k,v)
 | [],E,off,_=>.inl ⟨by simp[hit],rfl,fun v=>rfl⟩
 | p::l,[],off,h=>by simp at h
 | p::l,e::E,off,h=>by
  by_cases c:p.1=k
  ·exact .inr ⟨0,e,p,rfl,rfl,c,by simp[hit,c],by simp[mget,c],fun v=>by simp[mput,c]⟩
  ·rcases hit_ok k l E (off+1) (by simpa using h) with ⟨h1,h2,h3⟩ | ⟨i,e',p',h1,h2,h3,h4,h5,h6⟩
   ·exact .inl ⟨by simp[hit,c,h1],by simp[mget,c,h2],fun v=>by simp[mput,c,h3]⟩
   ·exact .inr ⟨i+1,e',p',by simpa using h1,by simpa using h2,h3,by simp[hit,c,h4];omega,by simp[mget,c,h5],fun v=>by simp[mput,c,h6]⟩
theorem Z66 {P:Program} {w:World} {b:Nat} {arr:Array MapEntry} {c:Nat} (hb:w.heap[b]? = some (.map arr c)):(getObj b).run P w = .ok (.map arr c) w:=by simp[getObj,Sem.run,hb]
theorem Za8 {P:Program} {w:World} {b:Nat} {arr:Array MapEntry} {c:Nat} {o':Obj} (hb:w.heap[b]? = some (.map arr c)):(setObj b o').run P w = .ok () (World.setBlock w b o'):=by simp[setObj,Sem.run,hb,World.setBlock]
theorem run_mlook {P:Program} {t kt et:TypeId} {K:Type} [DecidableEq K] {vk:K→Value} {w:World} {b:Nat} {arr:Array MapEntry} {clock:Nat} {ks:List K} {z:Value} {c:Bool} {k:K} (ht:P.underlying t=some (.map kt et)) (hk:Za3 P kt vk)
  (hb:w.heap[b]? = some (.map arr clock)) (hks:arr.toList.map (·.key)=ks.map vk) (hz:(zeroValue et).run P w = .ok z w) :
  (lookup t (.map (some b)) (vk k) c).run P w = .ok (if c then .tuple #[((hit k ks arr.toList 0).map (·.2)).getD z,.bool (hit k ks arr.toList 0).isSome] else((hit k ks arr.toList 0).map (·.2)).getD z) w:=by
 simp only[lookup,Sem.run_bind,Zl ht,Result.andThen_ok,Z66 hb,Sem.run_pure,hk.check,hk.find k arr.toList ks w hks];cases hit k ks arr.toList 0 with
 | none=>simp[hz]
 | some p=>simp
theorem run_mput {P:Program} {t kt et:TypeId} {K:Type} [DecidableEq K] {vk:K→Value} {w:World} {b:Nat} {arr:Array MapEntry} {clock:Nat} {ks:List K} {k:K} {v:Value} (ht:P.underlying t=some (.map kt et)) (hk:Za3 P kt vk)
  (hb:w.heap[b]? = some (.map arr clock)) (hks:arr.toList.map (·.key)=ks.map vk) :
  (hit k ks arr.toList 0=none→(mapUpdate t (.map (some b)) (vk k) v).run P w = .ok () (World.setBlock w b (.map (arr.push ⟨vk k,v,clock⟩) (clock+1)))) ∧
  ∀ i u e,hit k ks arr.toList 0=some (i,u)→arr[i]? = some e→e.key=vk k→(mapUpdate t (.map (some b)) (vk k) v).run P w = .ok () (World.setBlock w b (.map (arr.modify i fun e => { e with key:=vk k,val:=v }) clock)):=by
 constructor
 ·intro h
  simp only[mapUpdate,Sem.run_bind,Zl ht,Result.andThen_ok,Z66 hb,hk.check,hk.find k arr.toList ks w hks,h,Za8 hb]
 ·intro i u e h he hkey
  simp only[mapUpdate,Sem.run_bind,Zl ht,Result.andThen_ok,Z66 hb,hk.check,hk.find k arr.toList ks w hks,h,he,Option.map_some,Option.getD_some,hkey,hk.same,Za8 hb]
theorem map_at {w:World} {I:Nat→Prop} {κ:Nat→Option KI} {k:Nat} {es:List (Value×Im)} (h:OAt w I κ k (.map es)):∃ ki arr,κ k=some ki∧w.heap[ki.b]? = some (.map arr es.length)∧arr.size=es.length ∧
  ∀ i (h:i<es.length),∃ e,arr[i]? = some e∧e.born=i∧e.key=(es[i]).1∧IRep w I (es[i]).2 e.val:=by
 unfold OAt at h;cases e:κ k with
 | none=>rw[e] at h;obtain⟨_,_,h⟩:=h;simp at h
 | some ki=>rw[e] at h;obtain⟨arr,h1,h2,h3⟩:=h;exact⟨ki,arr,rfl,h1,h2,h3⟩
theorem mown_inv {w:World} {I:Nat→Prop} {κ:Nat→Option KI} {k:Nat} {v:Value} (h:Rep w I κ (.mown k) v):∃ ki,κ k=some ki∧v = .map (some ki.b):=by
 cases h with
 | mown e=>exact⟨_,e,rfl⟩
theorem keys_mE {K V:Type} {vk:K→Value} {iv:V→Im} {l:List (K×V)} {arr:Array MapEntry} (hs:arr.size=(mE vk iv l).length) (h:∀ i (h:i<(mE vk iv l).length),∃ e,arr[i]? = some e∧e.born=i∧e.key=((mE vk iv l)[i]).1∧True):arr.toList.map (·.key)=(l.map (·.1)).map vk:=by
 apply List.ext_getElem
 ·simp[hs,mE]
 ·intro i h1 h2
  simp only[List.length_map,Array.length_toList] at h1;obtain⟨e,e1,_,e3,_⟩:=h i (by omega);rw[Array.getElem?_eq_getElem h1] at e1;obtain rfl:=Option.some.inj e1;simp[e3,mE]
def valA:AVal→Option Value
 | .im (.sc v)=>some v
 | .agg cells=>(Z6h cells).map fun vs=>.agg vs.toArray
 | _=>none
theorem valA_rep {w:World} {I:Nat→Prop} {κ:Nat→Option KI} {x:AVal} {v u:Value} (h:valA x=some v) (hr:Rep w I κ x u):u=v:=by
 unfold valA at h;split at h
 ·obtain rfl:=Option.some.inj h;exact hr.sc_inv
 ·rename_i cells
  cases e:Z6h cells with
  | none=>rw[e] at h;simp at h
  | some vs=>rw[e] at h;simp at h;rw[← h];exact agg_sc e hr
 ·simp at h
def xMk (k:Nat):Ext where
 f P o s:=match o.op with
  | .makeMap t none=>some ⟨[],[k],.mown k,[(k,some (.map []))],[]⟩
  | _=>none
 ok P o s e he hp:=by
  split at he
  ·rename_i t ho
   obtain rfl:=Option.some.inj he;refine .of fun Γ κ I s2 a w hP hr hn hf => ?_;have hfk:=hf k (by simp[mkSp])
   let ki:KI:=⟨w.heap.size,0,0,0⟩
   have hO:ORep (World.alloc' w (.map #[] 0)) I (setK κ k (some ki)) ki (.map []):=⟨#[],Z4s _ _,rfl,fun i h=>absurd h (Nat.not_lt_zero _)⟩
   obtain⟨f1,f2,f3⟩:=hr.inv.alloc hfk (ki:=ki) rfl hO;refine⟨_,_,_,_,I,.inl rfl,?_,f1,fun _ h=>h,f2,f3,.mown (ki:=ki) (Z0q ..)⟩;simp[execOp,ho,makeMap,newObj,Sem.run,World.alloc',ki]
  ·simp at he
def putOp:Op→Option (TypeId×Operand×Operand×Operand)
 | .mapUpdate t m k x=>some (t,m,k,x)
 | .insert t m k x=>some (t,m,k,x)
 | _=>none
theorem putOp_of {o:Op} {t:TypeId} {x y z:Operand} (h:putOp o=some (t,x,y,z)):o = .mapUpdate t x y z∨o = .insert t x y z:=by
 unfold putOp at h;split at h
 ·simp at h;obtain⟨rfl,rfl,rfl,rfl⟩:=h;exact .inl rfl
 ·simp at h;obtain⟨rfl,rfl,rfl,rfl⟩:=h;exact .inr rfl
 ·simp at h
def xPut {K V:Type} [DecidableEq K] (vk:K→Value) (iv:V→Im) (l:List (K×V)) (k:K) (v:V):Ext where
 f P o s:=match putOp o.op with
  | some (t,x,y,z)=>match P.underlying t,s.eval x,s.eval z with
   | some (.map kt et),.mown m,.im u=>match s.obj m with
    | some (.map es)=>some ⟨[m],[],.top,[(m,some (.map (mE vk iv (mput l k v))))],[Za3 P kt vk,es=mE vk iv l,valA (s.eval y)=some (vk k),u=iv v]⟩
    | _=>none
   | _,_,_=>none
  | none=>none
 ok P o s e he hp:=by
  split at he
  ·rename_i t x y z hop
   have hop:=putOp_of hop;split at he
   ·rename_i kt et m u ht hx hz
    split at he
    ·rename_i es hm
     obtain rfl:=Option.some.inj he;obtain⟨hK,rfl,hy,rfl,_⟩:=hp;refine .of fun Γ κ I s2 a w hP hr hn hf => ?_;have g1:=opd hr hn x (by rcases hop with ho | ho<;>simp[ho,Op.operands]) hx;have g2:=valA_rep hy (opd hr hn y (by rcases hop with ho | ho<;>simp[ho,Op.operands]) rfl);have g3:=opd hr hn z (by rcases hop with ho | ho<;>simp[ho,Op.operands]) hz;have hm2:=(Z1j hn m (by simp)).trans hm;obtain⟨ki,eκ,ex⟩:=mown_inv g1;obtain⟨ki',arr,eκ',h1,h2,h3⟩:=map_at (hr.inv.objs m _ hm2);rw[eκ] at eκ';obtain rfl:=Option.some.inj eκ';have hks:=keys_mE h2 (fun i hi=>let ⟨e,a1,a2,a3,_⟩:=h3 i hi;⟨e,a1,a2,a3,trivial⟩);have hlen:(mE vk iv l).length=l.length:=by simp[mE]
     obtain⟨r1,r2⟩:=run_mput (v:=a.eval z) (k:=k) ht hK h1 hks;have hb:ki.b<w.heap.size:=(Array.getElem?_eq_some_iff.1 h1).1;have hne:∀ ob b,I b→(World.setBlock w ki.b ob).heap[b]? = w.heap[b]? := fun ob b hb'=>by
      rw[Z0d _ _ _ _ hb,if_neg];rintro rfl;exact hr.inv.disj m _ ki hm2 eκ hb'
     have hv:IRep w I (iv v) (a.eval z):=by cases g3 with | im h=>exact h
     have fin:∀ ob,(execOp a.eval o).run P w = .ok .skip (World.setBlock w ki.b ob)→ORep (World.setBlock w ki.b ob) I κ ki (.map (mE vk iv (mput l k v))) →
       ∃ v' nx w' κ' I',Gives v' nx∧(execOp a.eval o).run P w = .ok nx w'∧Inv Γ κ' I' (s2.objput [(m,some (.map (mE vk iv (mput l k v))))]) w'∧(∀ b,I b→I' b)∧(∀ b,I b→w'.heap[b]? = w.heap[b]?)∧(∀ x k,(s2.get x).has k=true→κ' k=κ k)∧Rep w' I' κ' .top v':=by
      intro ob hrun hO;obtain⟨f1,f2⟩:=hr.inv.update hm2 eκ hO;exact⟨_,_,_,κ,I,.inr ⟨rfl,rfl⟩,hrun,f1,fun _ h=>h,f2,fun _ _ _=>rfl,.top _⟩
     rcases hit_ok k l arr.toList 0 (by simp[h2,hlen]) with ⟨q1,q2,q3⟩ | ⟨i,e,p,q1,q2,q3,q4,q5,q6⟩
     ·refine fin (.map (arr.push ⟨vk k,a.eval z,(mE vk iv l).length⟩) ((mE vk iv l).length+1)) (by rcases hop with ho | ho<;>simp only[execOp,ho,ex,g2,Sem.run_bind,r1 q1,Result.andThen_ok,Sem.run_pure]) ?_
      rw[q3];refine⟨arr.push ⟨vk k,a.eval z,(mE vk iv l).length⟩,by rw[Z0d _ _ _ _ hb,if_pos rfl];simp[mE],by simp[mE,h2],fun i hi => ?_⟩;simp only[mE,List.length_map,List.length_append,List.length_cons,List.length_nil] at hi;by_cases c:i<l.length
      ·obtain⟨e,a1,a2,a3,a4⟩:=h3 i (by omega)
       refine⟨e,by rw[Array.getElem?_push,if_neg (by omega),a1],a2,?_,?_⟩
       ·rw[a3];simp[mE,List.getElem_append,c]
       ·have:(mE vk iv (l++[(k,v)]))[i]'(by simp[mE];omega)=(mE vk iv l)[i]'(by omega):=by simp[mE,List.getElem_append,c]
        rw[this];exact a4.mono (fun _ h=>h) (hne _)
      ·have hi':i=l.length:=by omega
       refine⟨⟨vk k,a.eval z,(mE vk iv l).length⟩,by rw[Array.getElem?_push,if_pos (by omega)],by simp[mE,hi'],by simp[mE,hi'],?_⟩;have:(mE vk iv (l++[(k,v)]))[i]'(by simp[mE];omega)=(vk k,iv v):=by simp[mE,hi']
       rw[this];exact hv.mono (fun _ h=>h) (hne _)
     ·have q1':arr[i]? = some e:=by simpa using q1
      have hil:i<l.length:=(List.getElem?_eq_some_iff.1 q2).1;obtain⟨e',a1,a2,a3,a4⟩:=h3 i (by omega);rw[q1'] at a1;obtain rfl:=Option.some.inj a1;have hkey:e.key=vk k:=by
       rw[a3];have:=(List.getElem?_eq_some_iff.1 q2).2;simp[mE,this,q3]
      have hrun:=r2 i e.val e (by rw[q4];simp) q1' hkey;refine fin (.map (arr.modify i fun e => { e with key:=vk k,val:=a.eval z }) (mE vk iv l).length) (by rcases hop with ho | ho<;>simp only[execOp,ho,ex,g2,Sem.run_bind,hrun,Result.andThen_ok,Sem.run_pure]) ?_;rw[q6];refine⟨arr.modify i fun e => { e with key:=vk k,val:=a.eval z },by rw[Z0d _ _ _ _ hb,if_pos rfl];simp[mE],by simp[mE,h2],fun j hj => ?_⟩;simp only[mE,List.length_map,List.length_set] at hj;obtain⟨e2,b1,b2,b3,b4⟩:=h3 j (by omega);by_cases c:i=j
      ·subst c
       refine⟨{ e with key:=vk k,val:=a.eval z },by simp[Array.getElem?_modify,q1'],a2,by simp[mE],?_⟩;have:(mE vk iv (l.set i (k,v)))[i]'(by simp[mE];omega)=(vk k,iv v):=by simp[mE]
       rw[this];exact hv.mono (fun _ h=>h) (hne _)
      ·refine⟨e2,by simp[Array.getElem?_modify,c,b1],b2,?_,?_⟩
       ·rw[b3];simp[mE,List.getElem_set,c]
       ·have:(mE vk iv (l.set i (k,v)))[j]'(by simp[mE];omega)=(mE vk iv l)[j]'(by omega):=by simp[mE,List.getElem_set,c]
        rw[this];exact b4.mono (fun _ h=>h) (hne _)
    ·simp at he
   ·simp at he
  ·simp at he
def xLook {K V:Type} [DecidableEq K] (vk:K→Value) (iv:V→Im) (l:List (K×V)) (k:K) (v0:V):Ext where
 f P o s:=match o.op with
  | .lookup t x y c=>match P.underlying t,s.eval x with
   | some (.map kt et),.mown m=>match s.obj m,Z8a   P et with
    | some (.map es),some (.im z)=>some ⟨[m],[],(match c with
      | true=>.tup [.im (iv ((mget l k).getD v0)),.im (.sc (.bool (mget l k).isSome))]
      | false=>.im (iv ((mget l k).getD v0))),[],[Za3 P kt vk,es=mE vk iv l,valA (s.eval y)=some (vk k),z=iv v0]⟩
    | _,_=>none
   | _,_=>none
  | _=>none
 ok P o s e he hp:=by
  split at he
  ·rename_i t x y c ho
   split at he
   ·rename_i kt et m ht hx
    split at he
    ·rename_i es z hm hz
     obtain rfl:=Option.some.inj he;obtain⟨hK,rfl,hy,rfl,_⟩:=hp;unfold Z8a at hz;cases hi:P.info? et with
     | none=>rw[hi] at hz;simp at hz
     | some i =>
      cases hzz:i.zero with
      | none=>rw[hi] at hz;simp[hzz] at hz
      | some zv =>
       rw[hi] at hz;simp[hzz] at hz;refine .quiet rfl fun Γ κ I s2 a w hP hr hn => ?_;have g1:=opd hr hn x (by simp[ho,Op.operands]) hx;have g2:=valA_rep hy (opd hr hn y (by simp[ho,Op.operands]) rfl);have hm2:=(Z1j hn m (by simp)).trans hm;obtain⟨ki,eκ,ex⟩:=mown_inv g1;obtain⟨ki',arr,eκ',h1,h2,h3⟩:=map_at (hr.inv.objs m _ hm2);rw[eκ] at eκ';obtain rfl:=Option.some.inj eκ';have hks:=keys_mE h2 (fun i hi=>let ⟨e,a1,a2,a3,_⟩:=h3 i hi;⟨e,a1,a2,a3,trivial⟩);have hlen:(mE vk iv l).length=l.length:=by simp[mE]
       have hz0:(zeroValue et).run P w = .ok zv w:=by simp[zeroValue,Z16 hi,hzz]
       have hrun:=run_mlook (k:=k) (c:=c) ht hK h1 hks hz0;have hrep:Rep w I κ (.im (iv ((mget l k).getD v0))) (((hit k (l.map (·.1)) arr.toList 0).map (·.2)).getD zv)∧(hit k (l.map (·.1)) arr.toList 0).isSome=(mget l k).isSome:=by
        rcases hit_ok k l arr.toList 0 (by simp[h2,hlen]) with ⟨q1,q2,q3⟩ | ⟨i,e,p,q1,q2,q3,q4,q5,q6⟩
        ·rw[q1,q2]
         refine⟨?_,rfl⟩;have:=Z4p w I κ zv;rw[hz] at this;exact this
        ·rw[q4,q5]
         refine⟨?_,rfl⟩;have q1':arr[i]? = some e:=by simpa using q1
         have hil:i<l.length:=(List.getElem?_eq_some_iff.1 q2).1;obtain⟨e',a1,a2,a3,a4⟩:=h3 i (by omega);rw[q1'] at a1;obtain rfl:=Option.some.inj a1;have:=(List.getElem?_eq_some_iff.1 q2).2;simp[mE,this] at a4;exact .im a4
       cases c with
       | false=>exact⟨_,by simp[execOp,ho,ex,g2,hrun],hrep.1⟩
       | true =>
        refine⟨.tuple #[((hit k (l.map (·.1)) arr.toList 0).map (·.2)).getD zv,.bool (hit k (l.map (·.1)) arr.toList 0).isSome],by simp[execOp,ho,ex,g2,hrun],?_⟩;refine Rep.tup (vs:=[_,_]) rfl (fun j h h' => ?_)
        match j with
        | 0=>exact hrep.1
        | 1=>show Rep _ _ _ (.im (.sc (.bool (mget l k).isSome))) (.bool _);rw[hrep.2];exact .im (.sc _)
        | j+2=>exact absurd h (by simp)
    ·simp at he
   ·simp at he
  ·simp at he
def xMlen (n:Int):Ext where
 f P o s:=match o.op with
  | .call { callee:=.builtin .len,args:=⟨[x]⟩,argTypes:=ts }=>match ts[0]? with
   | some t=>match P.underlying t,s.eval x with
    | some (.map _ _),.mown m=>match s.obj m with
     | some (.map es)=>some ⟨[m],[],.im (.sc (.int .i64 n)),[],[n=(es.length:Int)]⟩
     | _=>none
    | _,_=>none
   | none=>none
  | _=>none
 ok P o s e he hp:=by
  split at he
  ·rename_i x ts ho
   split at he
   ·rename_i t hts
    split at he
    ·rename_i kt et m ht hx
     split at he
     ·rename_i es hm
      obtain rfl:=Option.some.inj he;obtain⟨rfl,_⟩:=hp;refine .quiet rfl fun Γ κ I s2 a w hP hr hn => ?_;have g1:=opd hr hn x (by simp[ho,Op.operands,Call.operands]) hx;have hm2:=(Z1j hn m (by simp)).trans hm;obtain⟨ki,eκ,ex⟩:=mown_inv g1;obtain⟨ki',arr,eκ',h1,h2,h3⟩:=map_at (hr.inv.objs m _ hm2);rw[eκ] at eκ';obtain rfl:=Option.some.inj eκ';refine⟨.int .i64 (es.length:Int),?_,.im (.sc _)⟩;simp[execOp,ho,resolve,invoke,builtin,ex,Builtin.len_,hts,Zl ht,Z66 h1,goInt,h2]
     ·simp at he
    ·simp at he
   ·simp at he
  ·simp at he
theorem iter_at {w:World} {I:Nat→Prop} {κ:Nat→Option KI} {k:Nat} {m:Option Nat} {n:Nat} {sn:List Nat} (h:OAt w I κ k (.iter m n sn)):∃ ki bm,κ k=some ki∧w.heap[ki.b]? = some (.mapIter (some bm) n sn.toArray n) ∧
  ∀ m',m=some m'→∃ km,κ m'=some km∧km.b=bm:=by
 unfold OAt at h;cases e:κ k with
 | none=>rw[e] at h;obtain⟨_,_,h⟩:=h;simp at h
 | some ki=>rw[e] at h;obtain⟨bm,h1,h2⟩:=h;exact⟨ki,bm,rfl,h1,h2⟩
theorem ptr00 {w:World} {I:Nat→Prop} {κ:Nat→Option KI} {k:Nat} {ki:KI} {v:Value} (h:Rep w I κ (.ptr k 0 0) v) (e:κ k=some ki):v = .pointer (some ⟨ki.b,0,none⟩):=by
 cases h with
 | ptr e'=>rw[e] at e';obtain rfl:=Option.some.inj e';simp
def remI (n:Nat) (sn:List Nat):List Nat:=(List.range n).filter fun i => !sn.contains i
theorem remI_push {n:Nat} {sn:List Nat} {i:Nat} (hi:i∈remI n sn):∃ A B,remI n sn=A++i::B∧remI n (sn++[i])=A++B:=by
 obtain⟨h1,h2⟩:=List.mem_filter.1 hi;have hin:i<n:=by simpa using h1
 have:=Z9q (l:=List.range n) (f:=fun j => !sn.contains j) (g:=fun j => !(sn++[i]).contains j) (i:=i) (by simpa using hin) (by simpa using h2) (by simp) (fun j hj hne=>by simp[hne]);simp only[List.getElem_range] at this;exact⟨_,_,this.1,this.2⟩
theorem Sat.drew {Γ:Ctx} {s:Z0} {a:Act} {w:World} (hs:Sat Γ s a w):Sat Γ s a w.drew:=by
 obtain⟨κ,I,hr⟩:=hs;have hk:Z7j Γ.M0 Γ.w0 w.drew:=⟨hr.inv.keep.os,hr.inv.keep.tape,hr.inv.keep.output,hr.inv.keep.size,hr.inv.keep.block⟩
 refine⟨κ,I,hr.size,hr.defers,fun x=>(hr.slots x).mono (fun _ h=>h) (fun _ _=>rfl) (fun _ _=>rfl),?_,hr.inv.inj,hr.inv.disj,hr.inv.bound,hk,hr.inv.ikeep,hr.inv.fromI,hr.inv.fromO,hr.inv.fix⟩;intro k o hko;have:=hr.inv.objs k o hko;unfold OAt at this ⊢;split
 ·rename_i e;rw[e] at this;exact this
 ·rename_i ki e;rw[e] at this;exact this.mono (fun _ h=>h) (fun _ _=>rfl) rfl (fun _ _=>rfl)
theorem Sat.putv {Γ:Ctx} {s:Z0} {a:Act} {w:World} {κ:Nat→Option KI} {I:Nat→Prop} (hr:Rel Γ κ I s a w) (d:Nat) (hd:d<Γ.n) {x:AVal} {v:Value} (hx:Rep w I κ x v):Rel Γ κ I (s.put (some d) x) (a.put (some d) v) w:=by
 refine⟨by simpa[Act.put] using hr.size,hr.defers,fun y => ?_,hr.inv.eqv (fun k o hk=>by rw[Z0.obj_put] at hk;exact hk) rfl⟩;rw[Z0.get_put];by_cases e:d=y
 ·rw[if_pos e]
  have hsz:d<a.tmps.size:=by rw[hr.size];exact hd
  have:(a.put (some d) v).tmps.getD y undef=v:=by subst e;simp[Act.put,hsz]
  rw[this];exact hx
 ·rw[if_neg e]
  have:(a.put (some d) v).tmps.getD y undef=a.tmps.getD y undef:=by simp[Act.put,Array.getD_eq_getD_getElem?,Array.getElem?_setIfInBounds,e]
  rw[this];exact hr.slots y
theorem AWp.next {Γ:Ctx} {P:Program} {id:Nat} {o1 o2:Oper} {Q:Exit→Z0→Prop} {s:Z0} {x:Operand} (d1 d2 k m:Nat) {n:Nat} {sn:List Nat} {es:List (Value×Im)} (hP:Γ.P=P)
  (h1:o1.op = .next x false) (h2:o2.op = .extract (.tmp d1) 0) (g1:o1.guard=none) (g2:o2.guard=none) (e1:o1.dst=some d1) (e2:o2.dst=some d2) (l1:d1<Γ.n) (l2:d2<Γ.n)
  (hx:s.eval x = .ptr k 0 0) (hk:s.obj k=some (.iter (some m) n sn)) (hm:s.obj m=some (.map es)) (hn:n=es.length)
  (h0:remI n sn=[]→Q .normal ((s.put (some d1) .top).put (some d2) (.im (.sc (.bool false)))))
  (hi:∀ i A B,remI n sn=A++i::B→remI n (sn++[i])=A++B→i<n→Q .normal (((s.objput [(k,some (.iter (some m) n (sn++[i])))]).put (some d1) .top).put (some d2) (.im (.sc (.bool true))))) :
  AWp Γ (.region id #[o1,o2] false) Q s:=by
 subst hP;intro a w hs;refine wp_region_lit ?_;refine wpList_plain g1 fun K hK => ?_;obtain⟨κ,I,hr⟩:=hs;obtain⟨km,arr,eκ,q1,q2,q3⟩:=map_at (hr.inv.objs m _ hm);obtain⟨ki,bm,eκ2,r1,r2⟩:=iter_at (hr.inv.objs k _ hk);obtain⟨km',e',rfl⟩:=r2 m rfl;rw[eκ] at e';obtain rfl:=Option.some.inj e';have hrx:=hr.eval x;rw[hx] at hrx;have ex:=ptr00 hrx eκ2;have hborn:∀ e∈arr.toList,∃ i,arr[i]? = some e∧e.born=i∧i<n:=by
  intro e he;obtain⟨i,hi,rfl⟩:=List.mem_iff_getElem.1 he;simp only[Array.length_toList] at hi;obtain⟨e2,b1,b2,_⟩:=q3 i (by omega);have:arr[i]? = some arr[i]:=Array.getElem?_eq_getElem hi;rw[this] at b1;obtain rfl:=Option.some.inj b1;exact⟨i,by simp,by simpa using b2,by omega⟩
 have step2:∀ (s1:Z0) (a1:Act) (w1:World) (b:Bool) (vs:List Value),Sat Γ s1 (a1.put (some d1) (.tuple ((.bool b)::vs).toArray)) w1→d1<a1.tmps.size→Q .normal (s1.put (some d2) (.im (.sc (.bool b)))) →
   wpList Γ.P #[o1,o2] (fun e a' w'=>∃ s',Sat Γ s' a' w'∧Q e s') [o2] (a1.put (some d1) (.tuple ((.bool b)::vs).toArray)) w1:=by
  intro s1 a1 w1 b vs hs1 hsz hq;refine wpList_plain g2 fun K hK => ?_;have hval:(a1.put (some d1) (.tuple ((.bool b)::vs).toArray)).eval (.tmp d1) = .tuple ((.bool b)::vs).toArray:=by simp[Act.put,Act.eval,hsz]
  have hgoal:=hK ((a1.put (some d1) (.tuple ((.bool b)::vs).toArray)).put o2.dst (.bool b)) w1 (by
   refine⟨_,?_,hq⟩;rw[e2];obtain⟨κ1,I1,hr1⟩:=hs1;exact⟨κ1,I1,Sat.putv hr1 d2 l2 (.im (.sc _))⟩)
  unfold Oper.wp;simp[execOp,h2,hval,Instr.extract,Result.andThen];exact hgoal
 have hmemI:∀ e,e∈(leftOf arr sn.toArray).toList↔∃ i,arr[i]? = some e∧e.born=i∧i∈remI n sn:=by
  intro e;constructor
  ·intro he
   have he':e∈arr∧e.born ∉ sn:=by simpa[leftOf] using he
   obtain⟨i,b1,b2,b3⟩:=hborn e (by simpa using he'.1);refine⟨i,b1,b2,List.mem_filter.2 ⟨by simpa using b3,?_⟩⟩;rw[b2] at he';simpa using he'.2
  ·rintro⟨i,b1,b2,b3⟩
   obtain⟨_,b4⟩:=List.mem_filter.1 b3;have:=Array.mem_of_getElem? b1;have hb4:i ∉ sn:=by simpa using b4
   simp[leftOf,this,b2,hb4]
 have hsz1:d1<a.tmps.size:=by rw[hr.size];exact l1
 rcases run_next_at (P:=Γ.P) w o1.type ki.b km.b n n sn.toArray arr es.length r1 q1 (fun e he=>by obtain⟨i,_,b2,b3⟩:=hborn e he;omega) (by omega) with ⟨c0,hrun⟩ | ⟨e,he,w1,hw1,hrun⟩
 ·have hrem:remI n sn=[]:=by
   refine List.eq_nil_iff_forall_not_mem.2 fun i hi' => ?_;have hin:i<n:=by have:=(List.mem_filter.1 hi').1;simpa using this
   obtain⟨e,b1,b2,_⟩:=q3 i (by omega);have:=(hmemI e).2 ⟨i,b1,b2,hi'⟩;have h00:(leftOf arr sn.toArray).toList=[]:=by rw[← List.length_eq_zero_iff];simpa using c0
   rw[h00] at this;simp at this
  have hg:=hK (a.put o1.dst (.tuple #[.bool false])) w (by
   rw[e1];exact step2 (s.put (some d1) .top) a w false [] ⟨κ,I,Sat.putv hr d1 l1 (.top _)⟩ hsz1 (h0 hrem))
  unfold Oper.wp;simp[execOp,h1,ex,hrun,Result.andThen];exact hg
 ·obtain⟨i,b1,b2,b3⟩:=(hmemI e).1 he
  obtain⟨A,B,p1,p2⟩:=remI_push b3;have hin:i<n:=by have:=(List.mem_filter.1 b3).1;simpa using this
  have hs1:∃ κ I,Rel Γ κ I s a w1∧κ k=some ki∧κ m=some km∧w1.heap=w.heap:=by
   rcases hw1 with rfl | rfl
   ·exact⟨κ,I,hr,eκ2,eκ,rfl⟩
   ·have hk':Z7j   Γ.M0 Γ.w0 w.drew:=⟨hr.inv.keep.os,hr.inv.keep.tape,hr.inv.keep.output,hr.inv.keep.size,hr.inv.keep.block⟩
    refine⟨κ,I,⟨hr.size,hr.defers,fun x=>(hr.slots x).mono (fun _ h=>h) (fun _ _=>rfl) (fun _ _=>rfl),⟨fun k o hko => ?_,hr.inv.inj,hr.inv.disj,hr.inv.bound,hk',hr.inv.ikeep,hr.inv.fromI,hr.inv.fromO,hr.inv.fix⟩⟩,eκ2,eκ,rfl⟩;have:=hr.inv.objs k o hko;unfold OAt at this ⊢;split
    ·rename_i e;rw[e] at this;exact this
    ·rename_i ki e;rw[e] at this;exact this.mono (fun _ h=>h) (fun _ _=>rfl) rfl (fun _ _=>rfl)
  obtain⟨κ1,I1,hr1,f1,f2,f3⟩:=hs1
  let ob:Obj:=.mapIter (some km.b) n (sn++[e.born]).toArray es.length
  have hb:ki.b<w1.heap.size:=by rw[f3];exact(Array.getElem?_eq_some_iff.1 r1).1
  have hO:ORep (World.setBlock w1 ki.b ob) I1 κ1 ki (.iter (some m) n (sn++[i])):=by
   refine⟨km.b,by rw[Z0d _ _ _ _ hb,if_pos rfl];simp[ob,b2,hn],fun m' e=>by obtain rfl:=Option.some.inj e;exact⟨km,f2,rfl⟩⟩
  obtain⟨u1,u2⟩:=hr1.inv.update hk f1 hO;have hr2:Rel Γ κ1 I1 (s.objput [(k,some (.iter (some m) n (sn++[i])))]) a (World.setBlock w1 ki.b ob) :=
   ⟨hr1.size,hr1.defers,fun y=>(hr1.slots y).mono (fun _ h=>h) u2 (fun _ _=>rfl),u1⟩
  have hg:=hK (a.put o1.dst (.tuple #[.bool true,e.key,e.val])) (World.setBlock w1 ki.b ob) (by
   rw[e1];exact step2 _ a _ true [e.key,e.val] ⟨κ1,I1,Sat.putv hr2 d1 l1 (.top _)⟩ hsz1 (hi i A B p1 p2 hin))
  unfold Oper.wp;simp[execOp,h1,ex,hrun,Result.andThen];exact hg
end Go.Pv
namespace Go.Pv
theorem len_mE' {K V:Type} (vk:K→Value) (iv:V→Im) (l:List (K×V)):(l.length:Int)=((mE vk iv l).length:Int):=by simp[mE]
structure Gh where
 B:List Nat
 G:World→(Nat→Prop)→Prop
 mono:∀ (w w':World) (I I':Nat→Prop),(∀ b∈B,w'.heap[b]? = w.heap[b]?)→(∀ b,I b→I' b)→(∀ b,I b→w'.heap[b]? = w.heap[b]?)→G w I→G w' I'
structure GInv (Γ:Ctx) (κ:Nat→Option KI) (I:Nat→Prop) (s:Z0) (g:Gh) (w:World):Prop where
 holds:g.G w I
 size:∀ b∈g.B,b<w.heap.size
 dis:∀ b∈g.B,¬ I b
 obj:∀ b∈g.B,∀ k o ki,s.obj k=some o→κ k=some ki→ki.b≠b
 new:∀ b∈g.B,Γ.M0 b∨Γ.w0.heap.size≤b
def GSat (Γ:Ctx) (s:Z0) (g:Gh) (a:Act) (w:World):Prop:=∃ κ I,Rel Γ κ I s a w∧GInv Γ κ I s g w
def GWp (Γ:Ctx) (c:Code) (Q:Exit→Z0→Gh→Prop) (s:Z0) (g:Gh):Prop :=
 ∀ a w,GSat Γ s g a w→c.wp Γ.P (fun e a' w'=>∃ s' g',GSat Γ s' g' a' w'∧Q e s' g') a w
def GCv (Γ:Ctx) (s:Z0) (g:Gh) (s':Z0) (g':Gh):Prop:=∀ a w,GSat Γ s g a w→GSat Γ s' g' a w
theorem GWp.mono {Γ:Ctx} {c:Code} {Q Q':Exit→Z0→Gh→Prop} {s:Z0} {g:Gh} (h:GWp Γ c Q s g) (hq:∀ e s g,Q e s g→Q' e s g):GWp Γ c Q' s g :=
 fun a w hs=>Code.wp_mono (fun e a w ⟨s',g',h1,h2⟩=>⟨s',g',h1,hq _ _ _ h2⟩) (h a w hs)
theorem GWp.cv {Γ:Ctx} {c:Code} {Q:Exit→Z0→Gh→Prop} {s s':Z0} {g g':Gh} (hc:GCv Γ s g s' g') (h:GWp Γ c Q s' g'):GWp Γ c Q s g:=fun a w hs=>h a w (hc a w hs)
theorem GWp.ex {Γ:Ctx} {c:Code} {Q:Exit→Z0→Gh→Prop} {s:Z0} {g:Gh} {α:Type} {S:α→Z0} {G:α→Gh} (hc:∀ a w,GSat Γ s g a w→∃ x,GSat Γ (S x) (G x) a w) (h:∀ x,GWp Γ c Q (S x) (G x)):GWp Γ c Q s g :=
 fun a w hs=>let ⟨x,hx⟩:=hc a w hs;h x a w hx
theorem GWp.skip {Γ:Ctx} {Q:Exit→Z0→Gh→Prop} {s:Z0} {g:Gh} (h:Q .normal s g):GWp Γ .skip Q s g:=fun a w hs=>wp_skip ⟨s,g,hs,h⟩
theorem GWp.exit {Γ:Ctx} {Q:Exit→Z0→Gh→Prop} {s:Z0} {g:Gh} {id:Nat} (h:Q (.exit id) s g):GWp Γ (.exit id) Q s g:=fun a w hs=>wp_exit ⟨s,g,hs,h⟩
theorem GWp.ret {Γ:Ctx} {Q:Exit→Z0→Gh→Prop} {s:Z0} {g:Gh} (h:Q .ret s g):GWp Γ .ret Q s g:=fun a w hs=>wp_ret ⟨s,g,hs,h⟩
def gseqQ (next:Z0→Gh→Prop) (Q:Exit→Z0→Gh→Prop):Exit→Z0→Gh→Prop
 | .normal,s,g=>next s g
 | e,s,g=>Q e s g
theorem GWp.seq {Γ:Ctx} {x y:Code} {Q:Exit→Z0→Gh→Prop} {s:Z0} {g:Gh} (h:GWp Γ x (gseqQ (GWp Γ y Q) Q) s g):GWp Γ (.seq x y) Q s g:=fun a w hs =>
 wp_seq (Code.wp_mono (fun e a w ⟨s',g',h1,h2⟩=>by
  cases e with
  | normal=>exact h2 a w h1
  | _=>exact⟨s',g',h1,h2⟩) (h a w hs))
def gblockQ (id:Nat) (Q:Exit→Z0→Gh→Prop):Exit→Z0→Gh→Prop
 | .exit i,s,g=>if i=id then Q .normal s g else Q (.exit i) s g
 | e,s,g=>Q e s g
theorem GWp.block {Γ:Ctx} {id:Nat} {c:Code} {Q:Exit→Z0→Gh→Prop} {s:Z0} {g:Gh} (h:GWp Γ c (gblockQ id Q) s g):GWp Γ (.block id c) Q s g:=fun a w hs =>
 wp_block (Code.wp_mono (fun e a w ⟨s',g',h1,h2⟩=>by
  cases e with
  | exit i=>simp only[Exit.inBlock];simp only[gblockQ] at h2;split<;>simp_all<;>exact⟨s',g',h1,h2⟩
  | _=>exact⟨s',g',h1,h2⟩) (h a w hs))
theorem GWp.cond {Γ:Ctx} {c:Operand} {x y:Code} {Q:Exit→Z0→Gh→Prop} {s:Z0} {g:Gh} (b:Bool) (hb:s.eval c = .im (.sc (.bool b)))
  (ht:b=true→GWp Γ x Q s g) (hf:b=false→GWp Γ y Q s g):GWp Γ (.cond c x y) Q s g:=fun a w hs=>by
 obtain⟨κ,I,hr,hg⟩:=hs;have hc:a.eval c = .bool b:=(hb ▸ hr.eval c).sc_inv;exact wp_cond_split hc (fun h=>ht h a w ⟨κ,I,hr,hg⟩) (fun h=>hf h a w ⟨κ,I,hr,hg⟩)
def GLWp (Γ:Ctx) (c:Code) (Q:Exit→Z0→Gh→Prop) (s:Z0) (g:Gh):Prop :=
 ∀ a w,GSat Γ s g a w→∀ (b:Frame) (k:List Go.Item) (cs:List Frame),
  ∃ e a' w',(∃ s' g',GSat Γ s' g' a' w'∧Q e s' g')∧Arrives Γ.P (lone (b.at a (.code c :: .inLoop c::k)) cs w) b k cs e a' w'
theorem GLWp.round {Γ:Ctx} {c:Code} {Q:Exit→Z0→Gh→Prop} {s:Z0} {g:Gh} (h:GWp Γ c (gseqQ (GLWp Γ c Q) Q) s g):GLWp Γ c Q s g:=by
 intro a w hs b k cs;obtain⟨e,a₁,w₁,⟨s',g',h1,h2⟩,harr⟩:=h a w hs b (.inLoop c::k) cs;cases e with
 | normal =>
  obtain⟨e₂,a₂,w₂,hq₂,harr₂⟩:=h2 a₁ w₁ h1 b k cs;exact⟨e₂,a₂,w₂,hq₂,.of_steps (Steps.trans harr (.one step_inLoop)) harr₂⟩
 | exit id=>exact⟨_,a₁,w₁,⟨s',g',h1,h2⟩,.pass (x:=.inLoop c) rfl (fun _ _=>.inl (by simp)) harr⟩
 | goto l=>exact⟨_,a₁,w₁,⟨s',g',h1,h2⟩,.pass (x:=.inLoop c) rfl (fun _ _=>.inl (by simp)) harr⟩
 | ret=>exact⟨_,a₁,w₁,⟨s',g',h1,h2⟩,.pass (x:=.inLoop c) rfl (fun _ _=>.inl (by simp)) harr⟩
 | panic ch=>exact⟨_,a₁,w₁,⟨s',g',h1,h2⟩,.pass (x:=.inLoop c) rfl (fun _ _=>.inl (by simp)) harr⟩
 | outgrown=>exact⟨_,a₁,w₁,⟨s',g',h1,h2⟩,.pass (x:=.inLoop c) rfl (fun _ _=>.inl (by simp)) harr⟩
theorem GWp.loop {Γ:Ctx} {c:Code} {Q:Exit→Z0→Gh→Prop} {s:Z0} {g:Gh} (h:GLWp Γ c Q s g):GWp Γ (.loop c) Q s g:=fun a w hs b k cs =>
 let ⟨e,a',w',hq,harr⟩:=h a w hs b k cs
 ⟨e,a',w',hq,.of_steps (.one step_loop) harr⟩
theorem GLWp.ex {Γ:Ctx} {c:Code} {Q:Exit→Z0→Gh→Prop} {s:Z0} {g:Gh} {α:Type} {S:α→Z0} {G:α→Gh} (hc:∀ a w,GSat Γ s g a w→∃ x,GSat Γ (S x) (G x) a w) (h:∀ x,GLWp Γ c Q (S x) (G x)):GLWp Γ c Q s g :=
 fun a w hs=>let ⟨x,hx⟩:=hc a w hs;h x a w hx
theorem ORep.lt {w:World} {I:Nat→Prop} {κ:Nat→Option KI} {ki:KI} {o:MObj} (h:ORep w I κ ki o):ki.b<w.heap.size:=by
 have key:∀ x,w.heap[ki.b]? = some x→ki.b<w.heap.size:=fun x e=>(Array.getElem?_eq_some_iff.1 e).1
 cases o with
 | row sz el es=>obtain⟨_,_,_,arr,h3,_⟩:=h;exact key _ h3
 | box el cells=>obtain⟨_,_,arr,h3,_⟩:=h;exact key _ h3
 | map es=>obtain⟨arr,h1,_⟩:=h;exact key _ h1
 | iter m n sn=>obtain⟨bm,h1,_⟩:=h;exact key _ h1
 | arow sz el es fs=>obtain⟨_,_,_,arr,h3,_⟩:=h;exact key _ h3
theorem GWp.frame {Γ:Ctx} {c:Code} {Q:Exit→Z0→Gh→Prop} {s:Z0} {g:Gh}
  (h:∀ Γ':Ctx,Γ'.P=Γ.P→Γ'.n=Γ.n→AWp Γ' c (fun e s'=>s'.floor=s.floor∧Q e s' g) s):GWp Γ c Q s g:=by
 rintro a w ⟨κ,I,hr,hg⟩;have hdis:∀ b,I b→¬ Z60 κ s b:=fun b hb ⟨k,o,ki,h1,h2,h3⟩=>hr.inv.disj k o ki h1 h2 (h3 ▸ hb)
 have glob:Za4 Γ.P I (Z60 κ s) w:=fun x cs e=>by
  obtain⟨h1,h2,h3⟩:=hr.inv.tab e;exact⟨h1,hdis x h1,h2,h3⟩
 let Γ':Ctx := { P:=Γ.P,n:=Γ.n,w0:=w,I0:=I,M0:=Z60 κ s,κ0:=κ,glob:=glob }
 have sat:Sat Γ' s a w:=⟨κ,I,hr.size,hr.defers,hr.slots,hr.inv.objs,hr.inv.inj,hr.inv.disj,hr.inv.bound,Z7j.refl _ _,fun _ h=>h,fun b h=>.inl h,fun k o ki h1 h2=>.inl ⟨k,o,ki,h1,h2,rfl⟩,fun k hk=>rfl⟩
 refine Code.wp_mono (fun e a' w' ⟨s',h1,hfl,h2⟩ => ?_) (h Γ' rfl rfl a w sat);obtain⟨κ',I',r'⟩:=h1;have hsz:w.heap.size≤w'.heap.size:=r'.inv.keep.size;have fromM:∀ b,Z60 κ s b→Γ.M0 b∨Γ.w0.heap.size≤b:=fun b ⟨k,o,ki,h1,h2,h3⟩=>h3 ▸ hr.inv.fromO k o ki h1 h2
 have old:∀ b,b<w.heap.size→¬ Z60 κ s b→w'.heap[b]? = w.heap[b]? := fun b hb hn=>r'.inv.keep.block b hb hn
 have gnot:∀ b∈g.B,¬ Z60 κ s b:=fun b hb ⟨k,o,ki,h1,h2,h3⟩=>hg.obj b hb k o ki h1 h2 h3
 refine⟨s',g,⟨κ',I',⟨r'.size,r'.defers,r'.slots,r'.inv.objs,r'.inv.inj,r'.inv.disj,r'.inv.bound,?_,?_,?_,?_,?_⟩,?_,?_,?_,?_,hg.new⟩,h2⟩
 ·refine hr.inv.keep.trans r'.inv.keep (fun b hb hm => ?_)
  rcases fromM b hm with h | h
  ·exact h
  ·omega
 ·exact fun b hb=>r'.inv.ikeep b (hr.inv.ikeep b hb)
 ·intro b hb
  rcases r'.inv.fromI b hb with h | h | h
  ·exact hr.inv.fromI b h
  ·exact .inr (fromM b h)
  ·exact .inr (.inr (Nat.le_trans hr.inv.keep.size h))
 ·intro k o ki h1 h2
  rcases r'.inv.fromO k o ki h1 h2 with h | h
  ·exact fromM _ h
  ·exact .inr (Nat.le_trans hr.inv.keep.size h)
 ·intro k hk
  exact(r'.inv.fix k hk).trans (hr.inv.fix k (hfl ▸ hk))
 ·exact g.mono w w' I I' (fun b hb=>old b (hg.size b hb) (gnot b hb)) (fun b hb=>r'.inv.ikeep b hb) (fun b hb=>old b (hr.inv.bound b hb) (hdis b hb)) hg.holds
 ·exact fun b hb=>Nat.lt_of_lt_of_le (hg.size b hb) hsz
 ·intro b hb hI
  rcases r'.inv.fromI b hI with h | h | h
  ·exact hg.dis b hb h
  ·exact gnot b hb h
  ·exact absurd (hg.size b hb) (Nat.not_lt.2 h)
 ·intro b hb k o ki h1 h2 e
  rcases r'.inv.fromO k o ki h1 h2 with h | h
  ·exact gnot b hb (e ▸ h)
  ·have:=hg.size b hb;rw[e] at h;exact absurd this (Nat.not_lt.2 h)
end Go.Pv
open Go.RowKit
namespace Go.Pv
def noTabs (P:Program):Bool:=P.globals.toList.all fun x=>(tabNamed x.name).isNone
theorem noTabs_ok {P:Program} (h:noTabs P=true) (g:Nat):Z9p P g=none:=by
 unfold Z9p;split
 ·rename_i x hx
  have:=List.all_eq_true.1 h x (by rw[← Array.getElem?_toList] at hx;exact List.mem_of_getElem? hx);simpa using this
 ·rfl
def TabsAt (P:Program) (w:World):Prop:=∀ g cs,Z9p P g=some cs→g<w.heap.size∧∃ t m,w.heap[g]? = some (.cells cs.toArray t m)
theorem Fn.lawG {P:Program} {f:FuncId} {args:List AVal} {vs:List Value} {w:World} (h:Fn P f args [] 0 (fun x o=>x=bV true∧o=[]))
  (hl:vs.length=args.length) (hreps:∀ j (h:j<args.length) (h':j<vs.length),Rep w (fun b=>b<w.heap.size) (fun _=>none) (args[j]) (vs[j])) (ht:TabsAt P w) :
  Calls P f vs.toArray w fun e w'=>e = .returned (.bool true)∧Below w.heap.size w w':=by
 have hg:Za4 P (fun b=>b<w.heap.size) (Z60 (fun _=>none) ⟨[],[],0⟩) w:=fun g cs e=>⟨(ht g cs e).1,(fun⟨k,o,ki,h1,_⟩=>by simp[Z0.obj,look] at h1),ht g cs e⟩
 have hinv:Inv (Z6b P 0 (fun _=>none) (fun b=>b<w.heap.size) ⟨[],[],0⟩ w hg) (fun _=>none) (fun b=>b<w.heap.size) ⟨[],[],0⟩ w:=by
  refine⟨?_,?_,?_,fun b h=>h,Z7j.refl _ _,fun _ h=>h,fun b h=>.inl h,?_,fun _ _=>rfl⟩
  ·intro k o h;simp[Z0.obj,look] at h
  ·intro k k' o o' ki ki' h;simp[Z0.obj,look] at h
  ·intro k o ki h;simp[Z0.obj,look] at h
  ·intro k o ki h;simp[Z0.obj,look] at h
 refine(h (fun _=>none) (fun b=>b<w.heap.size) w vs hl hreps hg hinv).mono ?_;rintro e w' ⟨v,r,o,κ',I',rfl,⟨rfl,rfl⟩,hr,hi⟩;refine⟨by rw[hr.sc_inv],?_⟩;have hM:∀ b,b<w.heap.size→w'.heap[b]? = w.heap[b]? := fun b hb=>hi.keep.block b hb (fun hm=>by
  obtain⟨k,o,ki,h1,_⟩:=hm;simp[Z0.obj,look] at h1)
 exact⟨hi.keep.os,hi.keep.tape,hi.keep.output,hi.keep.size,hM⟩
theorem Fn.law {P:Program} {f:FuncId} {args:List AVal} {vs:List Value} {w:World} (h:Fn P f args [] 0 (fun x o=>x=bV true∧o=[]))
  (hl:vs.length=args.length) (hreps:∀ j (h:j<args.length) (h':j<vs.length),Rep w (fun b=>b<w.heap.size) (fun _=>none) (args[j]) (vs[j])) (hn:noTabs P=true:=by kernel_rfl) :
  Calls P f vs.toArray w fun e w'=>e = .returned (.bool true)∧Below w.heap.size w w' :=
 h.lawG hl hreps (fun g cs e=>by rw[noTabs_ok hn g] at e;cases e)
theorem chkT {p:Prop} [Decidable p] (h:p):chk p=some ():=by simp[chk,h]
theorem sb {α β:Type} (a:α) (f:α→Option β):(some a>>=f)=f a:=rfl
theorem chkB {p:Prop} [Decidable p] {α:Type} {f:Unit→Option α} (h:p):(chk p>>=f)=f ():=by rw[chkT h];rfl
theorem Z08 {n:Int} (h0 : -9223372036854775808≤n) (h1:n<9223372036854775808):IntKind.i64.wrap n=n:=by
 simp only[IntKind.wrap,IntKind.signed,IntKind.bits];simp;omega
abbrev L (s:ByteArray):List UInt8:=s.data.toList
theorem Z64 (s:ByteArray):s.toList=L s:=ByteArray.toList_eq ..
theorem size_L (s:ByteArray):(L s).length=s.size:=by simp[L]
theorem bt_L {s:ByteArray} {i:Nat} {c:UInt8} (h:(L s)[i]? = some c):bt s (i:Int)=(c.toNat:Int):=by
 have:s.data[i]? = some c:=by rw[← h];simp[L]
 simp[bt,this]
theorem ext_L {a b:ByteArray} (h:L a=L b):a=b:=by
 obtain⟨⟨a⟩⟩:=a;obtain⟨⟨b⟩⟩:=b;simp[L] at h;rw[h]
structure FlatA (w:World) (I:Nat→Prop) (κ:Nat→Option KI) (sz:Nat) (gs:List (List AVal)) (vs:List Value):Prop where
 len:vs.length=gs.length*sz
 el:∀ i (h:i<gs.length),(gs[i]).length=sz
 at_:∀ i (h:i<gs.length) j (h':j<(gs[i]).length),∃ v,vs[i*sz+j]? = some v∧Rep w I κ ((gs[i])[j]) v
theorem FlatA.nil (w:World) (I:Nat→Prop) (κ:Nat→Option KI) (sz:Nat):FlatA w I κ sz [] []:=⟨by simp,fun i h=>absurd h (Nat.not_lt_zero _),fun i h=>absurd h (Nat.not_lt_zero _)⟩
theorem FlatA.append {w:World} {I:Nat→Prop} {κ:Nat→Option KI} {sz:Nat} {es fs:List (List AVal)} {us vs:List Value} (h:FlatA w I κ sz es us) (h':FlatA w I κ sz fs vs):FlatA w I κ sz (es++fs) (us++vs):=by
 refine⟨by simp[h.len,h'.len,Nat.add_mul],fun i hi => ?_,fun i hi j hj => ?_⟩
 ·by_cases hlt:i<es.length
  ·rw[List.getElem_append_left hlt];exact h.el i hlt
  ·rw[List.getElem_append_right (by omega)];exact h'.el _ _
 ·by_cases hlt:i<es.length
  ·simp only[List.getElem_append_left hlt] at hj ⊢
   obtain⟨v,e,r⟩:=h.at_ i hlt j hj;have hjs:j<sz:=by rw[← h.el i hlt];exact hj
   exact⟨v,by rw[List.getElem?_append_left (by rw[h.len];exact Z6k hlt hjs)];exact e,r⟩
  ·simp only[List.getElem_append_right (Nat.le_of_not_lt hlt)] at hj ⊢
   simp only[List.length_append] at hi;obtain⟨v,e,r⟩:=h'.at_ (i-es.length) (by omega) j hj;refine⟨v,?_,r⟩;rw[List.getElem?_append_right (by rw[h.len];have:=Nat.mul_le_mul_right sz (Nat.le_of_not_lt hlt);omega),h.len];rw[show i*sz+j-es.length*sz=(i-es.length)*sz+j from by rw[Nat.sub_mul];have:=Nat.mul_le_mul_right sz (Nat.le_of_not_lt hlt);omega];exact e
theorem FlatA.mono {w w':World} {I I':Nat→Prop} {κ κ':Nat→Option KI} {sz:Nat} {gs:List (List AVal)} {vs:List Value} (h:FlatA w I κ sz gs vs) (hI:∀ b,I b→I' b) (hw:∀ b,I b→w'.heap[b]? = w.heap[b]?)
  (hk:∀ k,Z5i k gs=true→κ' k=κ k):FlatA w' I' κ' sz gs vs :=
 ⟨h.len,h.el,fun i hi j hj=>let ⟨v,e,r⟩:=h.at_ i hi j hj;⟨v,e,r.mono hI hw (fun k hkk=>hk k (by
  cases e:Z5i k gs with
  | true=>rfl
  | false=>rw[Z4h (Z9o e i hi) j hj] at hkk;cases hkk))⟩⟩
theorem arow_row {w:World} {I:Nat→Prop} {κ:Nat→Option KI} {ki:KI} {sz el:Nat} {es:List (List Im)} (h:ORep w I κ ki (.row sz el es)):ARow w I κ ki sz el (imL es):=by
 obtain⟨h1,h2,h3,arr,h4,h5,h6⟩:=h;refine⟨h1,by rw[Z1t];exact h2,by rw[Z1t];exact h3,arr,h4,h5,fun i hi => ?_⟩;rw[Z1t] at hi;obtain⟨g1,g2⟩:=h6 i hi;simp only[imL_get,List.length_map];refine⟨g1,fun j hj => ?_⟩;obtain⟨v,e,r⟩:=g2 j hj;simp only[List.getElem_map];exact⟨v,e,.im r⟩
theorem Inv.drew {Γ:Ctx} {κ:Nat→Option KI} {I:Nat→Prop} {s:Z0} {w:World} (h:Inv Γ κ I s w):Inv Γ κ I s w.drew:=by
 refine⟨fun k o hk => ?_,h.inj,h.disj,h.bound,⟨h.keep.os,h.keep.tape,h.keep.output,h.keep.size,h.keep.block⟩,h.ikeep,h.fromI,h.fromO,h.fix⟩;have:=h.objs k o hk;unfold OAt at this ⊢;split
 ·rename_i e';rw[e'] at this;exact this
 ·rename_i ki' e';rw[e'] at this;exact this.mono (fun _ h=>h) (fun _ _=>rfl) rfl (fun _ _=>rfl)
def rowA:MObj→Option (Nat×Nat×List (List Im)×List (List AVal))
 | .row sz el es=>some (sz,el,es,[])
 | .arow sz el es fs=>some (sz,el,es,fs)
 | _=>none
theorem rowA_ok {w:World} {I:Nat→Prop} {κ:Nat→Option KI} {ki:KI} {o:MObj} {sz el:Nat} {es:List (List Im)} {fs:List (List AVal)} (h:rowA o=some (sz,el,es,fs)) (ho:ORep w I κ ki o):ARow w I κ ki sz el (imL es++fs):=by
 unfold rowA at h;split at h
 ·simp at h;obtain⟨rfl,rfl,rfl,rfl⟩:=h;rw[List.append_nil];exact arow_row ho
 ·simp at h;obtain⟨rfl,rfl,rfl,rfl⟩:=h;exact ho
 ·simp at h
theorem rowA_none {w:World} {I:Nat→Prop} {κ:Nat→Option KI} {k:Nat} {o:MObj} {sz el:Nat} {es:List (List Im)} {fs:List (List AVal)} (h:rowA o=some (sz,el,es,fs)) (ho:OAt w I κ k o) (e:κ k=none):es=[]∧fs=[]:=by
 simp only[OAt,e] at ho;obtain⟨_,_,rfl⟩:=ho;simp[rowA] at h;exact⟨h.2.2.1,h.2.2.2⟩
theorem rowA_at {w:World} {I:Nat→Prop} {κ:Nat→Option KI} {k:Nat} {o:MObj} {sz el:Nat} {es:List (List Im)} {fs:List (List AVal)} {v:Value} (h:rowA o=some (sz,el,es,fs)) (ho:OAt w I κ k o) (hv:Rep w I κ (.own k) v) :
  (∃ base,v = .slice base 0 0∧es=[]∧fs=[])∨∃ ki,κ k=some ki∧ARow w I κ ki sz el (imL es++fs)∧v = .slice (some ⟨ki.b,0,none⟩) ki.len ki.cap:=by
 cases hv with
 | own0 base e=>obtain⟨h1,h2⟩:=rowA_none h ho e;exact .inl ⟨base,rfl,h1,h2⟩
 | @own _ ki e=>simp only[OAt,e] at ho;exact .inr ⟨ki,e,rowA_ok h ho,rfl⟩
theorem place_arow {w:World} {I:Nat→Prop} {κ:Nat→Option KI} {k i j sz el:Nat} {es:List (List Im)} {fs:List (List AVal)} {c:List AVal} {v:Value} (h:Rep w I κ (.ptr k (es.length+i) j) v)
  (ho:OAt w I κ k (.arow sz el es fs)) (hc:fs[i]? = some c):Place w I κ v (c.drop j):=by
 cases h with
 | @ptr _ _ _ ki ek =>
  simp only[OAt,ek,ORep] at ho;obtain⟨h1,_,_,arr,h3,h4,h5⟩:=ho;obtain⟨he,rfl⟩:=List.getElem?_eq_some_iff.1 hc;have hlt:es.length+i<(imL es++fs).length:=by rw[List.length_append,Z1t];omega
  obtain⟨hl,h6⟩:=h5 (es.length+i) hlt;have e1:(imL es++fs)[es.length+i]=fs[i]:=by rw[List.getElem_append_right (by rw[Z1t];omega)];simp[Z1t]
  refine⟨ki.b,(es.length+i)*ki.sz+j,rfl,fun m=>arr[(es.length+i)*sz+(j+m)]?.getD undef,fun m hm => ?_⟩;simp only[List.length_drop] at hm;obtain⟨v,g1,g2⟩:=h6 (j+m) (by rw[e1];omega);simp only[e1] at g2;rw[Z61 h3,List.getElem_drop,h1,Nat.add_assoc];exact⟨by simp[g1],by simpa[g1] using g2⟩
def NAt (w:World) (I:Nat→Prop) (sz el:Nat) (v:Value) (es:List (List Im)) (B:List Nat):Prop :=
 (∃ base,v = .slice base 0 0∧es=[]∧B=[])∨∃ ki:KI,B=[ki.b]∧v = .slice (some ⟨ki.b,0,none⟩) ki.len ki.cap∧ORep w I (fun _=>none) ki (.row sz el es)
theorem NAt.mono {w w':World} {I I':Nat→Prop} {sz el:Nat} {v:Value} {es:List (List Im)} {B:List Nat} (h:NAt w I sz el v es B) (hB:∀ b∈B,w'.heap[b]? = w.heap[b]?) (hI:∀ b,I b→I' b) (hw:∀ b,I b→w'.heap[b]? = w.heap[b]?):NAt w' I' sz el v es B:=by
 rcases h with h | ⟨ki,rfl,h2,h3⟩
 ·exact .inl h
 ·exact .inr ⟨ki,rfl,h2,h3.mono hI hw (hB _ (by simp)) (fun _ _=>rfl)⟩
def nest (sz el:Nat) (u:List Value) (gs:List (List (List Im))) (Bs:List (List Nat)):Gh where
 B:=Bs.flatten
 G w I:=u.length=gs.length∧Bs.length=gs.length∧Bs.flatten.Nodup∧∀ i (h:i<gs.length) (h1:i<u.length) (h2:i<Bs.length),NAt w I sz el u[i] gs[i] Bs[i]
 mono w w' I I' hB hI hw h:=⟨h.1,h.2.1,h.2.2.1,fun i h0 h1 h2=>(h.2.2.2 i h0 h1 h2).mono (fun b hb=>hB b (List.mem_flatten.2 ⟨_,List.getElem_mem h2,hb⟩)) hI hw⟩
theorem Z4a {Bs:List (List Nat)} {i:Nat} {x:List Nat} {b:Nat} (h:b∈(Bs.set i x).flatten):b∈Bs.flatten∨b∈x:=by
 obtain⟨l,hl,hb⟩:=List.mem_flatten.1 h;rcases List.mem_or_eq_of_mem_set hl with h | rfl
 ·exact .inl (List.mem_flatten.2 ⟨l,h,hb⟩)
 ·exact .inr hb
theorem set_split {α:Type} (l:List α) (i:Nat) (h:i<l.length) (x:α):l=l.take i++l[i]::l.drop (i+1)∧l.set i x=l.take i++x::l.drop (i+1):=by
 refine⟨by simp,?_⟩;rw[List.set_eq_take_append_cons_drop,if_pos h]
theorem flat_nil {Bs:List (List Nat)} {i:Nat} (h:i<Bs.length) (hn:Bs.flatten.Nodup):(Bs.set i []).flatten.Nodup∧∀ b∈Bs[i],b ∉ (Bs.set i []).flatten:=by
 obtain⟨e1,e2⟩:=set_split Bs i h [];rw[e1] at hn;rw[e2];simp only[List.flatten_append,List.flatten_cons,List.nil_append] at hn ⊢;rw[List.nodup_append] at hn;obtain⟨h1,h2,h3⟩:=hn;rw[List.nodup_append] at h2;refine⟨List.nodup_append.2 ⟨h1,h2.2.1,fun a ha b hb=>h3 a ha b (List.mem_append_right _ hb)⟩,fun b hb hc => ?_⟩;rcases List.mem_append.1 hc with hc | hc
 ·exact h3 b hc b (List.mem_append_left _ hb) rfl
 ·exact h2.2.2 b hb b hc rfl
theorem flat_one {Bs:List (List Nat)} {i x:Nat} (h:i<Bs.length) (h0:Bs[i]=[]) (hn:Bs.flatten.Nodup) (hx:x ∉ Bs.flatten):(Bs.set i [x]).flatten.Nodup:=by
 obtain⟨e1,e2⟩:=set_split Bs i h [x];rw[e1,h0] at hn hx;rw[e2];simp only[List.flatten_append,List.flatten_cons,List.nil_append,List.singleton_append] at hn hx ⊢;rw[List.nodup_append] at hn ⊢;obtain⟨h1,h2,h3⟩:=hn;simp only[List.mem_append,not_or] at hx;refine⟨h1,List.nodup_cons.2 ⟨hx.2,h2⟩,fun a ha b hb => ?_⟩;rcases List.mem_cons.1 hb with rfl | hb
 ·exact fun e=>hx.1 (e ▸ ha)
 ·exact h3 a ha b hb
theorem ORep.rowκ {w:World} {I:Nat→Prop} {κ κ':Nat→Option KI} {ki:KI} {sz el:Nat} {es:List (List Im)} (h:ORep w I κ ki (.row sz el es)):ORep w I κ' ki (.row sz el es):=h
theorem obj_objput (s:Z0) (l:List (Nat×Option MObj)) (k:Nat):(s.objput l).obj k=match look l k with | some o=>o | none=>s.obj k:=by
 show(look (l++s.objs) k).getD none=_;rw[Z42];cases look l k<;>rfl
def Z1a (u:List Value):List (List AVal):=u.map fun v=>[.im (.sc v)]
def Z0l (u:List Value):List (List Im):=u.map fun v=>[.sc v]
theorem Zaq (u:List Value) (j:Nat) (h:j<(Z1a u).length):(Z1a u)[j]=[.im (.sc (u[j]'(by simpa[Z1a] using h)))]:=by simp[Z1a]
theorem Z39 (u:List Value) (j:Nat) (h:j<(Z0l u).length):(Z0l u)[j]=[.sc (u[j]'(by simpa[Z0l] using h))]:=by simp[Z0l]
theorem focus {Γ:Ctx} {s:Z0} {u:List Value} {gs:List (List (List Im))} {Bs:List (List Nat)} {sz el k5 e5 k20 i:Nat} (h5:s.obj k5=some (.row 1 e5 (Z0l u))) (hk:k5≠k20) (hf:s.fresh k20) (hi:i<gs.length) :
  GCv Γ s (nest sz el u gs Bs) (s.objput [(k5,some (.arow 1 e5 [] ((Z1a u).set i [.own k20]))),(k20,some (.row sz el gs[i]))]) (nest sz el (u.set i (.slice none 0 0)) (gs.set i []) (Bs.set i [])):=by
 rintro a w ⟨κ,I,hr,hg⟩;obtain⟨hu,hB,hnd,hat⟩:=hg.holds;have hiu:i<u.length:=hu ▸ hi;have hiB:i<Bs.length:=hB ▸ hi;obtain⟨nd',notin⟩:=flat_nil hiB hnd;have hN:=hat i hi hiu hiB;obtain⟨ok,hok,hrep,hobj,hblk⟩:∃ ok:Option KI,(∀ ki,ok=some ki→ki.b∈Bs[i])∧Rep w I (setK κ k20 ok) (.own k20) u[i]∧OAt w I (setK κ k20 ok) k20 (.row sz el gs[i])∧True:=by
  rcases hN with ⟨base,e1,e2,e3⟩ | ⟨ki,e1,e2,e3⟩
  ·refine⟨none,fun ki e=>(nomatch e),?_,?_,trivial⟩
   ·rw[e1];exact .own0 base (Z0q ..)
   ·unfold OAt;rw[Z0q];exact⟨sz,el,by rw[e2]⟩
  ·refine⟨some ki,fun ki' e=>by cases e;rw[e1];simp,?_,?_,trivial⟩
   ·rw[e2];exact .own (Z0q ..)
   ·unfold OAt;rw[Z0q];exact e3.rowκ
 have hob:∀ k o,(s.objput [(k5,some (.arow 1 e5 [] ((Z1a u).set i [.own k20]))),(k20,some (.row sz el gs[i]))]).obj k=some o→(k=k5∧o = .arow 1 e5 [] ((Z1a u).set i [.own k20]))∨(k=k20∧o = .row sz el gs[i])∨(k≠k5∧k≠k20∧s.obj k=some o):=by
  intro k o h;rw[obj_objput,Z0n,Z0n] at h;by_cases q1:k5=k
  ·rw[if_pos q1] at h;simp at h;exact .inl ⟨q1.symm,h.symm⟩
  ·rw[if_neg q1] at h
   by_cases q2:k20=k
   ·rw[if_pos q2] at h;simp at h;exact .inr (.inl ⟨q2.symm,h.symm⟩)
   ·rw[if_neg q2] at h;simp[look] at h;exact .inr (.inr ⟨fun e=>q1 e.symm,fun e=>q2 e.symm,h⟩)
 have hκ:∀ k,k≠k20→setK κ k20 ok k=κ k:=fun k h=>Z6p κ k20 ok h
 have loc:∀ k o ki,(s.objput [(k5,some (.arow 1 e5 [] ((Z1a u).set i [.own k20]))),(k20,some (.row sz el gs[i]))]).obj k=some o→setK κ k20 ok k=some ki →
   (k=k20∧ki.b∈Bs[i])∨(k≠k20∧κ k=some ki∧∃ o',s.obj k=some o'):=by
  intro k o ki h1 h2;rcases hob k o h1 with ⟨rfl,_⟩ | ⟨rfl,_⟩ | ⟨_,q2,q3⟩
  ·exact .inr ⟨hk,by rw[← hκ _ hk];exact h2,_,h5⟩
  ·rw[Z0q] at h2;exact .inl ⟨rfl,hok _ h2⟩
  ·exact .inr ⟨q2,by rw[← hκ _ q2];exact h2,_,q3⟩
 have hsub:∀ b,b∈Bs[i]→b∈(nest sz el u gs Bs).B:=fun b hb=>List.mem_flatten.2 ⟨_,List.getElem_mem hiB,hb⟩
 refine⟨setK κ k20 ok,I,⟨hr.size,hr.defers,fun x => ?_,?_,?_,?_,hr.inv.bound,hr.inv.keep,hr.inv.ikeep,hr.inv.fromI,?_,?_⟩,?_,?_,?_,?_,?_⟩
 ·rw[    Z0.get_objput]
  exact(hr.slots x).mono (fun _ h=>h) (fun _ _=>rfl) (fun k hh=>hκ k (fun e=>by rw[e,hf.1 x] at hh;cases hh))
 ·intro k o h
  rcases hob k o h with ⟨rfl,rfl⟩ | ⟨rfl,rfl⟩ | ⟨q1,q2,q3⟩
  ·have h0:=hr.inv.objs _ _ h5
   unfold OAt at h0 ⊢;rw[hκ _ hk];cases e:κ k with
   | none =>
    rw[e] at h0;obtain⟨_,_,h0⟩:=h0;simp at h0;have:u=[]:=by simpa[Z0l] using h0.2.2
    rw[this] at hiu;simp at hiu
   | some ki =>
    rw[e] at h0;obtain⟨g1,g2,g3,arr,g4,g5,g6⟩:=h0;have hl:(imL []++(Z1a u).set i [.own k20]).length=(Z0l u).length:=by simp[imL,Z1a,Z0l]
    refine⟨g1,by rw[hl];exact g2,by rw[hl];exact g3,arr,g4,g5,fun j hj => ?_⟩;have hj':j<(Z0l u).length:=hl ▸ hj;have hju:j<u.length:=by simpa[Z0l] using hj'
    obtain⟨_,g7⟩:=g6 j hj';obtain⟨v,g8,g9⟩:=g7 0 (by rw[Z39];simp);have hv:v=u[j]:=by
     have:(Z0l u)[j][0]'(by rw[Z39];simp) = .sc u[j]:=by simp[Z0l]
     rw[this] at g9;cases g9;rfl
    subst hv;have hget:(imL []++(Z1a u).set i [.own k20])[j]=if i=j then [.own k20] else [.im (.sc u[j])]:=by
     have:(imL []++(Z1a u).set i [.own k20])[j]=((Z1a u).set i [.own k20])[j]'(by simpa[imL] using hj):=by simp[imL]
     rw[this,List.getElem_set];split
     ·rfl
     ·rw[Zaq]
    rw[hget];by_cases q:i=j
    ·subst q
     rw[if_pos rfl];refine⟨rfl,fun j' hj' => ?_⟩;obtain rfl:j'=0:=by simp at hj';exact hj'
     exact⟨_,g8,hrep⟩
    ·rw[if_neg q]
     refine⟨rfl,fun j' hj' => ?_⟩;obtain rfl:j'=0:=by simp at hj';exact hj'
     exact⟨_,g8,.im (.sc _)⟩
  ·exact hobj
  ·have h0:=hr.inv.objs k o q3
   unfold OAt at h0 ⊢;rw[hκ _ q2];cases e:κ k with
   | none=>rw[e] at h0;exact h0
   | some ki =>
    rw[e] at h0;exact h0.mono (fun _ h=>h) (fun _ _=>rfl) rfl (fun k' hh=>hκ k' (fun e'=>by rw[e',hf.2.1 k o q3] at hh;cases hh))
 ·intro k k' o o' ki ki' h1 h2 h3 h4 hb
  rcases loc k o ki h1 h3 with ⟨rfl,p⟩ | ⟨n,p,o1,p2⟩<;>rcases loc k' o' ki' h2 h4 with ⟨rfl,q⟩ | ⟨n',q,o2,q2⟩
  ·rfl
  ·exact absurd hb.symm (hg.obj _ (hsub _ p) _ _ _ q2 q)
  ·exact absurd hb (hg.obj _ (hsub _ q) _ _ _ p2 p)
  ·exact hr.inv.inj k k' o1 o2 ki ki' p2 q2 p q hb
 ·intro k o ki h1 h2
  rcases loc k o ki h1 h2 with ⟨rfl,p⟩ | ⟨n,p,o1,p2⟩
  ·exact hg.dis _ (hsub _ p)
  ·exact hr.inv.disj k o1 ki p2 p
 ·intro k o ki h1 h2
  rcases loc k o ki h1 h2 with ⟨rfl,p⟩ | ⟨n,p,o1,p2⟩
  ·exact hg.new _ (hsub _ p)
  ·exact hr.inv.fromO k o1 ki p2 p
 ·intro k hk'
  have hk'':k<s.floor:=hk';rw[hκ k (fun e=>by rw[e] at hk'';exact absurd hf.2.2.2 (Nat.not_le.2 hk''))];exact hr.inv.fix k hk''
 ·refine⟨by simp[hu],by simp[hB],nd',fun j h0 h1 h2 => ?_⟩
  rw[List.getElem_set,List.getElem_set,List.getElem_set];by_cases q:i=j
  ·rw[if_pos q,if_pos q,if_pos q];exact .inl ⟨none,rfl,rfl,rfl⟩
  ·rw[if_neg q,if_neg q,if_neg q];exact hat j (by simpa using h0) (by simpa using h1) (by simpa using h2)
 ·intro b hb
  rcases Z4a hb with h | h
  ·exact hg.size b h
  ·cases h
 ·intro b hb
  rcases Z4a hb with h | h
  ·exact hg.dis b h
  ·cases h
 ·intro b hb k o ki h1 h2 e
  rcases loc k o ki h1 h2 with ⟨rfl,p⟩ | ⟨n,p,o1,p2⟩
  ·exact notin _ p (e ▸ hb)
  ·rcases Z4a          hb with h | h
   ·exact hg.obj b h k o1 ki p2 p e
   ·cases h
 ·intro b hb
  rcases Z4a hb with h | h
  ·exact hg.new b h
  ·cases h
theorem unfocus {Γ:Ctx} {s:Z0} {u:List Value} {gs:List (List (List Im))} {Bs:List (List Nat)} {sz el k5 e5 k21 i:Nat} {es:List (List Im)} (h5:s.obj k5=some (.arow 1 e5 [] ((Z1a u).set i [.own k21]))) (h21:s.obj k21=some (.row sz el es)) (hk:k5≠k21) (hi:i<u.length) (hb0:∀ h:i<Bs.length,Bs[i]=[])
  (a:Act) (w:World) (hs:GSat Γ s (nest sz el u gs Bs) a w):∃ v B',GSat Γ (s.objput [(k5,some (.row 1 e5 (Z0l (u.set i v)))),(k21,none)]) (nest sz el (u.set i v) (gs.set i es) (Bs.set i B')) a w:=by
 obtain⟨κ,I,hr,hg⟩:=hs;obtain⟨hu,hB,hnd,hat⟩:=hg.holds;have hiB:i<Bs.length:=by omega
 have hlen:(imL []++(Z1a u).set i [.own k21]).length=u.length:=by simp[imL,Z1a]
 obtain⟨ki5,eκ5,g1,g2,g3,arr,g4,g5,g6⟩:∃ ki,κ k5=some ki∧ARow w I κ ki 1 e5 (imL []++(Z1a u).set i [.own k21]):=by
  have h0:=hr.inv.objs _ _ h5;unfold OAt at h0;cases e:κ k5 with
  | none=>rw[e] at h0;obtain⟨_,_,h0⟩:=h0;simp at h0
  | some ki=>rw[e] at h0;exact⟨ki,rfl,h0⟩
 have hget:∀ j (hj:j<(imL []++(Z1a u).set i [.own k21]).length),(imL []++(Z1a u).set i [.own k21])[j]=if i=j then [.own k21] else [.im (.sc (u[j]'(hlen ▸ hj)))]:=by
  intro j hj;have:(imL []++(Z1a u).set i [.own k21])[j]=((Z1a u).set i [.own k21])[j]'(by simpa[imL] using hj):=by simp[imL]
  rw[this,List.getElem_set];split
  ·rfl
  ·rw[Zaq]
 obtain⟨v,hv,hrepv⟩:∃ v,arr[i]? = some v∧Rep w I κ (.own k21) v:=by
  obtain⟨_,q⟩:=g6 i (by rw[hlen];exact hi);have hl:0<((imL []++(Z1a u).set i [.own k21])[i]'(by rw[hlen];exact hi)).length:=by rw[hget i (by rw[hlen];exact hi),if_pos rfl];simp
  obtain⟨v,e1,e2⟩:=q 0 hl;refine⟨v,by simpa using e1,?_⟩;have:((imL []++(Z1a u).set i [.own k21])[i]'(by rw[hlen];exact hi))[0] = .own k21:=by simp only[hget i (by rw[hlen];exact hi)];simp
  rwa [this] at e2
 obtain⟨B',hB',hBk⟩:∃ B',NAt w I sz el v es B'∧((B'=[])∨∃ ki,B'=[ki.b]∧κ k21=some ki):=by
  have h0:=hr.inv.objs _ _ h21;unfold OAt at h0;cases hrepv with
  | own0 base e=>rw[e] at h0;obtain⟨_,_,h0⟩:=h0;simp at h0;exact⟨[],.inl ⟨base,rfl,h0.2.2,rfl⟩,.inl rfl⟩
  | own e=>rw[e] at h0;exact⟨_,.inr ⟨_,rfl,rfl,h0.rowκ⟩,.inr ⟨_,rfl,e⟩⟩
 have hob:∀ k o,(s.objput [(k5,some (.row 1 e5 (Z0l (u.set i v)))),(k21,none)]).obj k=some o→(k=k5∧o = .row 1 e5 (Z0l (u.set i v)))∨(k≠k5∧k≠k21∧s.obj k=some o):=by
  intro k o h;rw[obj_objput,Z0n,Z0n] at h;by_cases q1:k5=k
  ·rw[if_pos q1] at h;simp at h;exact .inl ⟨q1.symm,h.symm⟩
  ·rw[if_neg q1] at h
   by_cases q2:k21=k
   ·rw[if_pos q2] at h;simp at h
   ·rw[if_neg q2] at h;simp[look] at h;exact .inr ⟨fun e=>q1 e.symm,fun e=>q2 e.symm,h⟩
 have loc:∀ k o,(s.objput [(k5,some (.row 1 e5 (Z0l (u.set i v)))),(k21,none)]).obj k=some o→k≠k21∧∃ o',s.obj k=some o':=by
  intro k o h;rcases hob k o h with ⟨rfl,_⟩ | ⟨_,q2,q3⟩
  ·exact⟨hk,_,h5⟩
  ·exact⟨q2,_,q3⟩
 have inB:∀ b,b∈(Bs.set i B').flatten→b∈Bs.flatten∨∃ ki,B'=[ki.b]∧κ k21=some ki∧b=ki.b:=by
  intro b hb;rcases Z4a hb with h | h
  ·exact .inl h
  ·rcases hBk with rfl | ⟨ki,rfl,e⟩
   ·cases h
   ·exact .inr ⟨ki,rfl,e,by simpa using h⟩
 refine⟨v,B',κ,I,⟨hr.size,hr.defers,fun x=>hr.slots x,?_,?_,?_,hr.inv.bound,hr.inv.keep,hr.inv.ikeep,hr.inv.fromI,?_,hr.inv.fix⟩,?_,?_,?_,?_,?_⟩
 ·intro k o h
  rcases hob k o h with ⟨rfl,rfl⟩ | ⟨q1,q2,q3⟩
  ·unfold OAt
   rw[eκ5];have hl:(Z0l (u.set i v)).length=(imL []++(Z1a u).set i [.own k21]).length:=by rw[hlen];simp[Z0l]
   refine⟨g1,by rw[hl];exact g2,by rw[hl];exact g3,arr,g4,g5,fun j hj => ?_⟩;have hj':=hl ▸ hj;have hju:j<u.length:=hlen ▸ hj';rw[Z39];refine⟨rfl,fun j' hj'' => ?_⟩;obtain rfl:j'=0:=by simp at hj'';exact hj''
   by_cases q:i=j
   ·subst q
    refine⟨v,by simpa using hv,?_⟩;simp;exact .sc v
   ·obtain⟨_,p⟩:=g6 j hj'
    have hl0:0<((imL []++(Z1a u).set i [.own k21])[j]'hj').length:=by rw[hget j hj',if_neg q];simp
    obtain⟨v',e1,e2⟩:=p 0 hl0;have:((imL []++(Z1a u).set i [.own k21])[j]'hj')[0] = .im (.sc u[j]):=by simp only[hget j hj',if_neg q];simp
    rw[this] at e2;have:=e2.sc_inv;subst this;refine⟨_,e1,?_⟩;simp[List.getElem_set,q];exact .sc _
  ·exact hr.inv.objs k o q3
 ·intro k k' o o' ki ki' h1 h2
  obtain⟨_,o1,p⟩:=loc k o h1;obtain⟨_,o2,p'⟩:=loc k' o' h2;exact hr.inv.inj k k' o1 o2 ki ki' p p'
 ·intro k o ki h1
  obtain⟨_,o1,p⟩:=loc k o h1;exact hr.inv.disj k o1 ki p
 ·intro k o ki h1
  obtain⟨_,o1,p⟩:=loc k o h1;exact hr.inv.fromO k o1 ki p
 ·refine⟨by simp[hu],by simp[hB],?_,fun j h0 h1 h2 => ?_⟩
  ·rcases hBk with rfl | ⟨ki,rfl,e⟩
   ·exact(flat_nil hiB hnd).1
   ·exact flat_one hiB (hb0 hiB) hnd (fun h=>hg.obj _ h k21 _ ki h21 e rfl)
  ·rw[List.getElem_set,List.getElem_set,List.getElem_set]
   by_cases q:i=j
   ·rw[if_pos q,if_pos q,if_pos q];exact hB'
   ·rw[if_neg q,if_neg q,if_neg q];exact hat j (by simpa using h0) (by simpa using h1) (by simpa using h2)
 ·intro b hb
  rcases inB b hb with h | ⟨ki,_,e,rfl⟩
  ·exact hg.size b h
  ·have h0:=hr.inv.objs _ _ h21
   unfold OAt at h0;rw[e] at h0;exact h0.lt
 ·intro b hb
  rcases inB b hb with h | ⟨ki,_,e,rfl⟩
  ·exact hg.dis b h
  ·exact hr.inv.disj k21 _ ki h21 e
 ·intro b hb k o ki h1 h2 e
  obtain⟨n,o1,p⟩:=loc k o h1;rcases inB b hb with h | ⟨ki',_,e',rfl⟩
  ·exact hg.obj b h k o1 ki p h2 e
  ·exact n (hr.inv.inj k k21 o1 _ ki ki' p h21 h2 e' e)
 ·intro b hb
  rcases inB b hb with h | ⟨ki,_,e,rfl⟩
  ·exact hg.new b h
  ·exact hr.inv.fromO k21 _ ki h21 e
theorem ORep.data {w:World} {I:Nat→Prop} {κ:Nat→Option KI} {ki:KI} {sz el:Nat} {es:List (List Im)} (h:ORep w I κ ki (.row sz el es)) {I':Nat→Prop} (hI:∀ b,I b→I' b) (hb:I' ki.b):IRep w I' (.row es) (.slice (some ⟨ki.b,0,none⟩) ki.len ki.cap):=by
 obtain⟨h1,h2,h3,arr,h4,h5,h6⟩:=h;refine .row (sz:=sz) (fun i j=>(arr[i*sz+j]?).getD undef) h2 hb (by rw[h2];exact h3) (fun i h=>(h6 i h).1) (fun i j hi hj => ?_) (fun i hi j hj => ?_)
 ·obtain⟨e1,e2⟩:=h6 i hi
  obtain⟨v,e3,_⟩:=e2 j (by rw[e1];exact hj);unfold World.cell?;simp only[h4,Nat.zero_add,e3];rfl
 ·obtain⟨e1,e2⟩:=h6 i hi
  obtain⟨v,e3,e4⟩:=e2 j hj;rw[e3];exact e4.mono hI (fun _ _=>rfl)
theorem freeze {Γ:Ctx} {s:Z0} {u:List Value} {gs:List (List (List Im))} {Bs:List (List Nat)} {sz el k5 e5 x:Nat} (h5:s.obj k5=some (.row 1 e5 (Z0l u))) (hx:s.get x = .own k5)
  (a:Act) (w:World) (hs:GSat Γ s (nest sz el u gs Bs) a w):Sat Γ ⟨[(x,.im (.row (gs.map fun es=>[.row es])))],[],s.floor⟩ a w:=by
 obtain⟨κ,I,hr,hg⟩:=hs;obtain⟨hu,hB,hnd,hat⟩:=hg.holds
 let I':Nat→Prop:=fun b=>I b∨(∃ ki,κ k5=some ki∧b=ki.b)∨b∈Bs.flatten
 have hI:∀ b,I b→I' b:=fun b h=>.inl h
 have no:∀ k o,(⟨[(x,.im (.row (gs.map fun es=>[.row es])))],[],s.floor⟩:Z0).obj k=some o→False:=fun k o h=>by simp[Z0.obj,look] at h
 have h0:=hr.inv.objs _ _ h5;refine⟨κ,I',hr.size,hr.defers,fun y => ?_,fun k o h=>(no k o h).elim,fun k k' o o' ki ki' h=>(no k o h).elim,fun k o ki h=>(no k o h).elim,?_,hr.inv.keep,fun b h=>.inl (hr.inv.ikeep b h),?_,fun k o ki h=>(no k o h).elim,hr.inv.fix⟩
 ·show Rep w I' κ ((look [(x,AVal.im (.row (gs.map fun es=>[.row es])))] y).getD .top) _
  rw[Z0n];by_cases e:x=y
  ·subst e
   rw[if_pos rfl];have hv:=hr.slots x;rw[hx] at hv;unfold OAt at h0;refine .im ?_;generalize a.tmps.getD x undef=val at hv ⊢;cases hv with
   | own0 base e =>
    rw[e] at h0;obtain⟨_,_,h0⟩:=h0;simp at h0;have:u=[]:=by simpa[Z0l] using h0.2.2
    have:gs=[]:=List.length_eq_zero_iff.1 (by rw[← hu,this];rfl);rw[this];exact .row0 base 0
   | own e =>
    rename_i ki;rw[e] at h0;obtain⟨g1,g2,g3,arr,g4,g5,g6⟩:=h0;have hlen:(Z0l u).length=gs.length:=by simp[Z0l,hu]
    have hcell:∀ i (h:i<u.length),arr[i]? = some u[i]:=fun i h=>by
     obtain⟨_,q⟩:=g6 i (by simpa[Z0l] using h);obtain⟨v,e1,e2⟩:=q 0 (by rw[Z39];simp);have:(Z0l u)[i][0]'(by rw[Z39];simp) = .sc u[i]:=by simp[Z0l]
     rw[this] at e2;cases e2;simpa using e1
    refine .row (sz:=1) (fun i _=>(arr[i]?).getD undef) (by simp[g2,hlen]) (.inr (.inl ⟨ki,e,rfl⟩)) (by rw[g2];exact g3) (fun i h=>by simp) (fun i j hi hj => ?_) (fun i hi j hj => ?_)
    ·obtain rfl:j=0:=by omega
     have hi':i<u.length:=by simpa[hu] using hi
     unfold World.cell?;simp only[g4,Nat.zero_add,Nat.mul_one,Nat.add_zero,hcell i hi'];rfl
    ·have hi':i<gs.length:=by simpa using hi
     obtain rfl:j=0:=by simp at hj;exact hj
     rw[hcell i (by omega)];simp only[List.getElem_map,List.getElem_cons_zero,Option.getD_some];rcases hat i hi' (by omega) (by omega) with ⟨base,e1,e2,e3⟩ | ⟨kj,e1,e2,e3⟩
     ·rw[e1,e2];exact .row0 base 0
     ·rw[e2];exact e3.data hI (.inr (.inr (List.mem_flatten.2 ⟨Bs[i]'(by omega),List.getElem_mem _,by rw[e1];simp⟩)))
  ·rw[if_neg e];exact .top _
 ·intro b hb
  rcases hb with h | ⟨ki,e,rfl⟩ | h
  ·exact hr.inv.bound b h
  ·unfold OAt at h0;rw[e] at h0;exact h0.lt
  ·exact hg.size b h
 ·intro b hb
  rcases hb with h | ⟨ki,e,rfl⟩ | h
  ·exact hr.inv.fromI b h
  ·exact .inr (hr.inv.fromO k5 _ ki h5 e)
  ·exact .inr (hg.new b h)
theorem setCell_block {w:World} {b o t:Nat} {v:Value} {arr:Array Value} {m:Nat×Nat} (h:w.heap[b]? = some (.cells arr t m)):w.setCell ⟨b,o,none⟩ v=World.setBlock w b (.cells (arr.setIfInBounds o v) t m):=by
 unfold World.setCell World.setBlock;congr 1;apply Array.ext_getElem?;intro k;simp only[Array.getElem?_modify,Array.getElem?_setIfInBounds];obtain⟨hb,he⟩:=Array.getElem?_eq_some_iff.1 h;by_cases e:b=k
 ·subst e;simp[hb,he]
 ·simp[e]
theorem Z37 {b t:Nat} {m:Nat×Nat}:∀ (vs:List Value) (o:Nat) (w:World) (arr:Array Value),w.heap[b]? = some (.cells arr t m)→w.setCells b o vs=World.setBlock w b (.cells (Z13 arr o vs) t m)
 | [],o,w,arr,h=>by
  obtain⟨hb,he⟩:=Array.getElem?_eq_some_iff.1 h;show w=World.setBlock w b (.cells arr t m);unfold World.setBlock;have:w.heap=w.heap.setIfInBounds b (.cells arr t m):=by
   apply Array.ext_getElem?;intro k;rw[Array.getElem?_setIfInBounds];by_cases e:b=k
   ·subst e;simp[hb,he]
   ·simp[e]
  rw[← this]
 | v::r,o,w,arr,h=>by
  have hb:b<w.heap.size:=(Array.getElem?_eq_some_iff.1 h).1;rw[World.setCells,setCell_block h,Z37 r (o+1) _ (arr.setIfInBounds o v) (by rw[Z0d _ _ _ _ hb,if_pos rfl])];rw[show Z13 arr o (v::r)=Z13 (arr.setIfInBounds o v) (o+1) r from rfl];unfold World.setBlock;congr 1;apply Array.ext_getElem?;intro k;simp only[Array.getElem?_setIfInBounds,Array.size_setIfInBounds];by_cases e:b=k<;>simp[e]
theorem row_cells {w:World} {I:Nat→Prop} {κ:Nat→Option KI} {ki:KI} {el:Nat} {us:List Value} (h:ORep w I κ ki (.row 1 el (Z0l us))) :
  ki.sz=1∧ki.len=us.length∧us.length≤ki.cap∧∃ arr,w.heap[ki.b]? = some (.cells arr el (0,0))∧arr.size=ki.cap∧∀ j (h:j<us.length),arr[j]? = some us[j]:=by
 obtain⟨h1,h2,h3,arr,h4,h5,h6⟩:=h;have hl:(Z0l us).length=us.length:=by simp[Z0l]
 refine⟨h1,by rw[h2,hl],by rw[← hl];exact h3,arr,h4,by simpa using h5,fun j hj => ?_⟩;obtain⟨_,q⟩:=h6 j (by rw[hl];exact hj);obtain⟨v,e1,e2⟩:=q 0 (by rw[Z39];simp);have:(Z0l us)[j][0]'(by rw[Z39];simp) = .sc us[j]:=by simp[Z0l]
 rw[this] at e2;cases e2;simpa using e1
theorem Z7z {w:World} {I:Nat→Prop} {κ:Nat→Option KI} {ki:KI} {el:Nat} {us:List Value} {arr:Array Value} (h1:ki.sz=1) (h2:ki.len=us.length) (h3:us.length≤ki.cap) (h4:w.heap[ki.b]? = some (.cells arr el (0,0))) (h5:arr.size=ki.cap)
  (h6:∀ j (h:j<us.length),arr[j]? = some us[j]):ORep w I κ ki (.row 1 el (Z0l us)):=by
 have hl:(Z0l us).length=us.length:=by simp[Z0l]
 refine⟨h1,by rw[h2,hl],by rw[hl];exact h3,arr,h4,by simpa using h5,fun j hj => ?_⟩;rw[Z39];refine⟨rfl,fun j' hj' => ?_⟩;obtain rfl:j'=0:=by simp at hj';exact hj'
 exact⟨_,by simpa using h6 j (by rw[← hl];exact hj),.sc _⟩
theorem Inv.turn {Γ:Ctx} {κ:Nat→Option KI} {I:Nat→Prop} {s:Z0} {w w':World} {k k2:Nat} {o o':MObj} {ki':KI} (h:Inv Γ κ I s w) (hk:s.obj k=some o) (hf:s.fresh k2)
  (hw:w'.os=w.os∧w'.tape=w.tape∧w'.output=w.output∧w.heap.size≤w'.heap.size) (hold:∀ b,b<w.heap.size→b≠ki'.b→w'.heap[b]? = w.heap[b]?)
  (hnb:(∃ ki,κ k=some ki∧ki'.b=ki.b)∨w.heap.size≤ki'.b) (ho':ORep w' I (setK κ k2 (some ki')) ki' o') :
  Inv Γ (setK κ k2 (some ki')) I (s.objput [(k2,some o'),(k,none)]) w':=by
 have hkk2:k≠k2:=fun e=>by rw[e,hf.2.2.1] at hk;simp at hk
 have hκ':∀ k',k'≠k2→setK κ k2 (some ki') k'=κ k':=fun k' hk=>Z6p _ _ _ hk
 have lt:∀ k' o'' kj,s.obj k'=some o''→κ k'=some kj→kj.b<w.heap.size:=fun k' o'' kj e1 e2=>by
  have:=h.objs k' o'' e1;unfold OAt at this;rw[e2] at this;exact this.lt
 have apart:∀ k' o'' kj,k'≠k→s.obj k'=some o''→κ k'=some kj→kj.b≠ki'.b:=fun k' o'' kj hne e1 e2 e=>by
  rcases hnb with ⟨ki,f1,f2⟩ | f
  ·exact hne (h.inj k' k o'' o kj ki e1 hk e2 f1 (e.trans f2))
  ·exact absurd (lt k' o'' kj e1 e2) (by rw[e];omega)
 have noI:¬ I ki'.b:=fun hI=>by
  rcases hnb with ⟨ki,f1,f2⟩ | f
  ·exact h.disj k o ki hk f1 (f2 ▸ hI)
  ·exact absurd (h.bound _ hI) (by omega)
 have oI:∀ b,I b→w'.heap[b]? = w.heap[b]? := fun b hI=>hold b (h.bound b hI) (fun e=>noI (e ▸ hI))
 have hobj:∀ k' o'',(s.objput [(k2,some o'),(k,none)]).obj k'=some o''→(k'=k2∧o''=o')∨(k'≠k2∧k'≠k∧s.obj k'=some o''):=by
  intro k' o'' e;rw[obj_objput,Z0n,Z0n] at e;by_cases ek:k2=k'
  ·rw[if_pos ek] at e;simp at e;exact .inl ⟨ek.symm,e.symm⟩
  ·rw[if_neg ek] at e
   by_cases ek':k=k'
   ·rw[if_pos ek'] at e;simp at e
   ·rw[if_neg ek'] at e;simp[look] at e;exact .inr ⟨fun h=>ek h.symm,fun h=>ek' h.symm,e⟩
 refine⟨?_,?_,?_,?_,?_,h.ikeep,h.fromI,?_,fun k' hk'=>(hκ' k' (fun e=>by have:=hf.2.2.2;rw[e] at hk';exact absurd hk' (by simp only[Z0.objput];omega))).trans (h.fix k' hk')⟩
 ·intro k' o'' e
  rcases hobj k' o'' e with ⟨rfl,rfl⟩ | ⟨h1,h2,e⟩
  ·simp only[OAt,Z0q];exact ho'
  ·have:=h.objs k' o'' e
   unfold OAt at this ⊢;rw[hκ' k' h1];cases eκ:κ k' with
   | none=>rw[eκ] at this;exact this
   | some kj =>
    rw[eκ] at this;exact this.mono (fun _ h=>h) oI (hold _ this.lt (apart k' o'' kj h2 e eκ)) (fun k3 h3=>hκ' k3 (fun e2=>by rw[e2,hf.2.1 k' o'' e] at h3;simp at h3))
 ·intro k1 k3 o1 o3 ki1 ki3 e1 e3 f1 f3 hbb
  rcases hobj k1 o1 e1 with ⟨q1,_⟩ | ⟨h1,h1',g1⟩<;>rcases hobj k3 o3 e3 with ⟨q3,_⟩ | ⟨h3,h3',g3⟩
  ·rw[q1,q3]
  ·rw[q1,Z0q      ] at f1;rw[hκ' _ h3] at f3
   obtain rfl:=Option.some.inj f1;exact absurd hbb.symm (apart k3 o3 ki3 h3' g3 f3)
  ·rw[q3,Z0q      ] at f3;rw[hκ' _ h1] at f1
   obtain rfl:=Option.some.inj f3;exact absurd hbb (apart k1 o1 ki1 h1' g1 f1)
  ·rw[hκ' _ h1] at f1;rw[hκ' _ h3] at f3
   exact h.inj k1 k3 o1 o3 ki1 ki3 g1 g3 f1 f3 hbb
 ·intro k1 o1 ki1 e1 f1
  rcases hobj k1 o1 e1 with ⟨rfl,rfl⟩ | ⟨h1,_,e1⟩
  ·rw[Z0q      ] at f1;obtain rfl:=Option.some.inj f1
   exact noI
  ·rw[hκ' _ h1] at f1;exact h.disj k1 o1 ki1 e1 f1
 ·exact fun b hb'=>Nat.lt_of_lt_of_le (h.bound b hb') hw.2.2.2
 ·refine⟨hw.1.trans h.keep.os,hw.2.1.trans h.keep.tape,hw.2.2.1.trans h.keep.output,Nat.le_trans h.keep.size hw.2.2.2,fun b hb' hn => ?_⟩
  rw[hold b (Nat.lt_of_lt_of_le hb' h.keep.size) ?_,h.keep.block b hb' hn];rintro rfl;rcases hnb with ⟨ki,f1,f2⟩ | f
  ·rcases h.fromO k o ki hk f1 with hm | hm
   ·exact hn (f2 ▸ hm)
   ·rw[f2] at hb';omega
  ·have:=h.keep.size;omega
 ·intro k1 o1 ki1 e1 f1
  rcases hobj k1 o1 e1 with ⟨rfl,rfl⟩ | ⟨h1,_,e1⟩
  ·rw[Z0q      ] at f1;obtain rfl:=Option.some.inj f1
   rcases hnb with ⟨ki,f1,f2⟩ | f
   ·rw[f2];exact h.fromO k o ki hk f1
   ·exact .inr (Nat.le_trans h.keep.size f)
  ·rw[hκ' _ h1] at f1;exact h.fromO k1 o1 ki1 e1 f1
structure InsOut (w w':World) (el:Nat) (us:List Value) (old:Option Nat) (v:Value):Prop where
 out:∃ nb cap arr,v = .slice (some ⟨nb,0,none⟩) us.length cap∧us.length≤cap∧w'.heap[nb]? = some (.cells arr el (0,0))∧arr.size=cap∧(∀ j (h:j<us.length),arr[j]? = some us[j]) ∧
  (∀ b,b<w.heap.size→b≠nb→w'.heap[b]? = w.heap[b]?)∧(old=some nb∨w.heap.size≤nb)
 os:w'.os=w.os
 tape:w'.tape=w.tape
 output:w'.output=w.output
 size:w.heap.size≤w'.heap.size
theorem ins_fn {P:Program} {f el:Nat} (us:List Value) (n:Nat) (x:Value)
  (H:∀ (w:World) (v0:Value) (old:Option Nat) (vb vc:Nat) (varr:Array Value),((∃ base,v0 = .slice base 0 0∧us=[]∧old=none)∨∃ b c arr,v0 = .slice (some ⟨b,0,none⟩) us.length c∧old=some b∧w.heap[b]? = some (.cells arr el (0,0))∧arr.size=c∧us.length≤c∧∀ j (h:j<us.length),arr[j]? = some us[j]) →
   w.heap[vb]? = some (.cells varr el (0,0))→varr[0]? = some x→old≠some vb→Calls P f #[v0,.int .i64 n,.slice (some ⟨vb,0,none⟩) 1 vc] w fun e w'=>∃ v,e = .returned v∧InsOut w w' el (us.take n++x::us.drop n) old v) :
  Fn P f [.own 0,iV .i64 (n:Int),.own 1] [(0,some (.row 1 el (Z0l us))),(1,some (.row 1 el (Z0l [x])))] 2
   (fun r o=>r = .own 2∧o=[(0,none),(1,none),(2,some (.row 1 el (Z0l (us.take n++x::us.drop n))))]):=by
 intro κ I w vs hl hreps hg hinv;obtain⟨v0,v1,v2,rfl⟩:∃ v0 v1 v2,vs=[v0,v1,v2]:=by
  match vs,hl with
  | [a,b,c],_=>exact⟨a,b,c,rfl⟩
 have r0:=hreps 0 (by simp) (by simp);have r1:=(hreps 1 (by simp) (by simp)).sc_inv;have r2:=hreps 2 (by simp) (by simp);simp only[List.getElem_cons_zero,List.getElem_cons_succ] at r0 r1 r2;have o0:(⟨[],[(0,some (.row 1 el (Z0l us))),(1,some (.row 1 el (Z0l [x])))],2⟩:Z0).obj 0=some (.row 1 el (Z0l us)):=rfl;have o1:(⟨[],[(0,some (.row 1 el (Z0l us))),(1,some (.row 1 el (Z0l [x])))],2⟩:Z0).obj 1=some (.row 1 el (Z0l [x])):=rfl;have h0:=hinv.objs 0 _ o0;have h1:=hinv.objs 1 _ o1;obtain⟨k1,e1,rfl⟩:∃ k1,κ 1=some k1∧v2 = .slice (some ⟨k1.b,0,none⟩) k1.len k1.cap:=by
  generalize hv:v2=v at r2;cases r2 with
  | own0 base e=>unfold OAt at h1;rw[e] at h1;obtain⟨_,_,h1⟩:=h1;simp[Z0l] at h1
  | own e=>exact⟨_,e,rfl⟩
 unfold OAt at h1;rw[e1] at h1;obtain⟨_,a2,a3,varr,a4,a5,a6⟩:=row_cells h1;obtain⟨old,ho,hin⟩:∃ old:Option Nat,(∀ b,old=some b→∃ ki,κ 0=some ki∧ki.b=b)∧((∃ base,v0 = .slice base 0 0∧us=[]∧old=none)∨∃ b c arr,v0 = .slice (some ⟨b,0,none⟩) us.length c∧old=some b∧w.heap[b]? = some (.cells arr el (0,0))∧arr.size=c∧us.length≤c∧∀ j (h:j<us.length),arr[j]? = some us[j]):=by
  unfold OAt at h0;cases r0 with
  | own0 base e =>
   rw[e] at h0;obtain⟨_,_,h0⟩:=h0;simp at h0;exact⟨none,fun b h=>(nomatch h),.inl ⟨base,rfl,by simpa[Z0l] using h0.2.2,rfl⟩⟩
  | own e =>
   rename_i ki;rw[e] at h0;obtain⟨_,b2,b3,arr,b4,b5,b6⟩:=row_cells h0;exact⟨some ki.b,fun b h=>⟨ki,e,by simpa using h⟩,.inr ⟨ki.b,ki.cap,arr,by rw[b2],rfl,b4,b5,b3,b6⟩⟩
 have hne:old≠some k1.b:=fun e=>by
  obtain⟨ki,f1,f2⟩:=ho _ e;have:=hinv.inj 0 1 _ _ ki k1 o0 o1 f1 e1 f2;simp at this
 rw[a2,r1];refine(H w v0 old k1.b k1.cap varr hin a4 (a6 0 (by simp)) hne).mono ?_;rintro e w' ⟨v,rfl,hout⟩;obtain⟨nb,cap,arr,c1,c2,c3,c4,c5,c6,c7⟩:=hout.out
 let ki':KI:=⟨nb,cap,1,(us.take n++x::us.drop n).length⟩
 have hfr:(⟨[],[(0,some (.row 1 el (Z0l us))),(1,some (.row 1 el (Z0l [x])))],2⟩:Z0).fresh 2:=by
  refine⟨fun x=>by simp[Z0.get,look,AVal.has],fun k' o h => ?_,rfl,Nat.le_refl _⟩;have:(look [(0,some (MObj.row 1 el (Z0l us))),(1,some (.row 1 el (Z0l [x])))] k').getD none=some o:=h;rw[Z0n,Z0n] at this;split at this
  ·simp at this;subst this;rfl
  ·split at this
   ·simp at this;subst this;rfl
   ·simp[look] at this
 have turn:=Inv.turn (k2:=2) (ki':=ki') (o':=.row 1 el (Z0l (us.take n++x::us.drop n))) hinv o0 hfr ⟨hout.os,hout.tape,hout.output,hout.size⟩ c6 (by
  rcases c7 with h | h
  ·obtain⟨ki,f1,f2⟩:=ho _ h;exact .inl ⟨ki,f1,f2.symm⟩
  ·exact .inr h) (Z7z rfl rfl c2 c3 c4 c5)
 refine⟨v,.own 2,_,setK κ 2 (some ki'),I,rfl,⟨rfl,rfl⟩,?_,?_⟩
 ·rw[c1];exact .own (Z0q ..)
 ·refine turn.eqv (fun k o h => ?_) rfl
  have h':(look [(0,none),(1,none),(2,some (MObj.row 1 el (Z0l (us.take n++x::us.drop n))))] k).getD none=some o:=h;rw[Z0n,Z0n,Z0n] at h';rw[obj_objput,Z0n,Z0n];split at h'
  ·simp at h'
  ·split at h'
   ·simp at h'
   ·split at h'
    ·rename_i q1 q2 q3
     subst q3;rw[if_pos rfl];exact h'
    ·simp[look] at h'
end Go.Pv
namespace Go.Pv
open Go.Instr
def xIdxP (i:Nat):Ext where
 f P o s:=match o.op with
  | .indexAddr t x ix=>match Z5p   P t,s.eval x,s.eval ix with
   | some (e,sz),.own k,.im (.sc (.int _ n))=>match s.obj k with
    | some (.arow sz' el es fs)=>match Nat.beq sz' sz with
     | true=>some ⟨[k],[],.ptr k (es.length+i) 0,[],[n=((es.length+i:Nat):Int),i<fs.length]⟩
     | false=>none
    | _=>none
   | _,_,_=>none
  | _=>none
 ok P o s e he hp:=by
  split at he
  ·rename_i t x ix ho
   split at he
   ·rename_i el sz k kk n hel hx hi
    split at he
    ·rename_i sz' el' es fs hk
     split at he
     ·rename_i b1
      obtain rfl:=Nat.eq_of_beq_eq_true b1;obtain rfl:=Option.some.inj he;obtain⟨rfl,b2,_⟩:=hp;refine .quiet rfl fun Γ κ I s2 a w hP hr hn => ?_;have g1:=opd hr hn x (by simp[ho,Op.operands]) hx;have g2:=(opd hr hn ix (by simp[ho,Op.operands]) hi).sc_inv;have hO:=hr.inv.objs k _ ((Z1j hn k (by simp)).trans hk);have hkr:rowA (.arow sz' el' es fs)=some (sz',el',es,fs):=rfl;rcases rowA_at hkr hO g1 with ⟨base,h1,rfl,rfl⟩ | ⟨ki,h1,h2,h3⟩
      ·simp at b2
      ·obtain⟨c1,c2,c3,_⟩:=h2
       rw[List.length_append,Z1t] at c2;have hrun:=Z5d (P:=P) hel (k:=kk) (i:=((es.length+i:Nat):Int)) (b:=ki.b) (off:=0) (len:=ki.len) (cap:=ki.cap) (by omega) (by omega) w;refine⟨.pointer (some ⟨ki.b,0+(es.length+i)*sz',none⟩),?_,?_⟩
       ·rw[Int.toNat_natCast] at hrun
        simp only[execOp,ho,h3,g2,Sem.run_bind,hrun,Result.andThen_ok,Sem.run_pure]
       ·have:=Rep.ptr (w:=w) (I:=I) (e:=es.length+i) (j:=0) h1
        rw[c1] at this;simpa[mkSp] using this
     ·simp at he
    ·simp at he
   ·simp at he
  ·simp at he
def xLoadP (i:Nat) (c:List AVal):Ext where
 f P o s:=match o.op with
  | .load t x=>match aggP P t,s.eval x with
   | some (ag,sz),.ptr k e j=>match s.obj k with
    | some (.arow sz' el es fs)=>match Z9g   ag sz (c.drop j) with
     | some r=>some ⟨[k],[],r,[],[e=es.length+i,fs[i]? = some c]⟩
     | none=>none
    | _=>none
   | _,_=>none
  | _=>none
 ok P o s e he hp:=by
  split at he
  ·rename_i t x ho
   split at he
   ·rename_i ag sz k e' j ht hx
    split at he
    ·rename_i sz' el es fs hk
     split at he
     ·rename_i r hr
      ·obtain rfl:=Option.some.inj he
       obtain⟨rfl,hc,_⟩:=hp;refine .quiet rfl fun Γ κ I s2 a w hP hrel hn => ?_;have h1:=opd hrel hn x (by simp[ho,Op.operands]) hx;have h2:=Z80 hrel.inv ((Z1j hn k (by simp)).trans hk);obtain⟨v,hv,hrep⟩:=Z59 (place_arow h1 h2 hc) ht hr;exact⟨v,by simp[execOp,ho,hv],hrep⟩
     ·simp at he
    ·simp at he
   ·simp at he
  ·simp at he
def xStoreP (i:Nat) (c:List AVal):Ext where
 f P o s:=match o.op with
  | .store t x y=>match aggP P t,s.eval x with
   | some (ag,sz),.ptr k e j=>match s.obj k with
    | some (.arow sz' el es fs)=>match Z28 (Z0i (s.eval y))&&Nat.blt 0 sz&&Nat.beq (Z0i (s.eval y)).length sz&&Nat.ble (j+sz) c.length with
      | true=>some ⟨[k],[],.top,[(k,some (.arow sz' el es (fs.set i (Z3b c j (Z0i (s.eval y))))))],[e=es.length+i,fs[i]? = some c]⟩
      | false=>none
    | _=>none
   | _,_=>none
  | _=>none
 ok P o s e he hp:=by
  split at he
  ·rename_i t x y ho
   split at he
   ·rename_i ag sz k e' j ht hx
    split at he
    ·rename_i sz' el es fs hk
     split at he
     ·rename_i hb
      ·skip
       simp only[Bool.and_eq_true,Nat.blt_eq] at hb;obtain⟨⟨⟨hl,h0⟩,hsz⟩,hfit⟩:=hb;have hsz:=Nat.eq_of_beq_eq_true hsz;have hfit:=Nat.le_of_ble_eq_true hfit;obtain rfl:=Option.some.inj he;obtain⟨rfl,hc,_⟩:=hp;refine .of fun Γ κ I s2 a w hP hrel hn hf => ?_;have h1:=opd hrel hn x (by simp[ho,Op.operands]) hx;have h2:=opd hrel hn y (by simp[ho,Op.operands]) rfl;have hk2:=(Z1j hn k (by simp)).trans hk;have h3:=Z80 hrel.inv hk2;obtain⟨v1,v2,v3⟩:=Z2o h2 hl;obtain⟨he,rfl⟩:=List.getElem?_eq_some_iff.1 hc;generalize hp:a.eval x=p at h1;cases h1 with
       | @ptr _ _ _ ki eκ =>
        simp only[OAt,eκ,ORep] at h3;obtain⟨c1,c2,c3,arr,c4,c5,c6⟩:=h3;have hlt:es.length+i<(imL es++fs).length:=by rw[List.length_append,Z1t];omega
        have e1:(imL es++fs)[es.length+i]=fs[i]:=by rw[List.getElem_append_right (by rw[Z1t];omega)];simp[Z1t]
        obtain⟨hel,hcells⟩:=c6 (es.length+i) hlt;rw[e1] at hel;generalize hV:Z0i (s.eval y)=V at *;have hvl:(a.eval y).cells.toList.length=sz:=by rw[← hsz];simpa using v1
        generalize hE:es.length+i=E at *;have hbound:E*sz'+j+sz≤arr.size:=by
         have h4:(E+1)*sz'≤ki.cap*sz':=Nat.mul_le_mul_right _ (by omega);rw[Nat.add_mul] at h4;rw[c5];omega
        let ob:Obj:=.cells (Z13 arr (E*sz'+j) (a.eval y).cells.toList) el (0,0)
        have hrun:(execOp a.eval o).run P w = .ok .skip (World.setBlock w ki.b ob):=by
         have hst:=Z48 (P:=P) (b:=ki.b) (el:=el) (a.eval y).cells.toList w arr (E*sz'+j) 0 c4 (by rw[hvl];omega) v3 (by intro e;rw[e] at hvl;simp at hvl;omega);simp only[execOp,ho,hp,Instr.storeAt,Instr.sureAddr,pure_bind,storeVar,Sem.run_bind,Z0y ht,Result.andThen_ok];rw[if_neg (by simp at hvl;simp[hvl])];simp only[Nat.add_zero] at hst;simp[c1,hst,ob]
        have hb:ki.b<w.heap.size:=(Array.getElem?_eq_some_iff.1 c4).1;have hne:∀ b,I b→(World.setBlock w ki.b ob).heap[b]? = w.heap[b]? := fun b hb'=>by
         rw[Z0d _ _ _ _ hb,if_neg];rintro rfl;exact hrel.inv.disj k _ ki hk2 eκ hb'
        have e2:imL es++fs.set i (Z3b fs[i] j V)=(imL es++fs).set E (Z3b fs[i] j V):=by
         rw[List.set_append,if_neg (by rw[Z1t];omega),Z1t,show E-es.length=i from by omega]
        have hO:ORep (World.setBlock w ki.b ob) I κ ki (.arow sz' el es (fs.set i (Z3b fs[i] j V))):=by
         show ARow _ _ _ _ _ _ (imL es++fs.set i (Z3b fs[i] j V));rw[e2];have hsl:=Z3e (l:=fs[i]) (r:=V) (j:=j) (by omega);refine⟨c1,by simpa using c2,by simpa using c3,Z13 arr (E*sz'+j) (a.eval y).cells.toList,by rw[Z0d _ _ _ _ hb,if_pos rfl],by rw[Z1d];exact c5,fun q hq => ?_⟩;rw[List.length_set] at hq;by_cases hie:E=q
         ·subst hie
          simp only[List.getElem_set_self];refine⟨by rw[hsl];exact hel,fun m hm => ?_⟩;rw[hsl] at hm;rw[Z1h _ _ _ _ (by rw[hvl];exact hbound),Z65 (by omega)];by_cases hin:j≤m∧m<j+V.length
          ·rw[if_pos (by rw[hvl];omega),dif_pos hin]
           obtain⟨u,q1,q2⟩:=v2 (m-j) (by omega);refine⟨u,?_,q2.mono (fun _ h=>h) hne (fun _ _=>rfl)⟩;rw[show E*sz'+m-(E*sz'+j)=m-j from by omega];simpa using q1
          ·rw[if_neg (by rw[hvl];omega),dif_neg hin]
           obtain⟨u,q1,q2⟩:=hcells m (by rw[e1];exact hm);simp only[e1] at q2;exact⟨u,q1,q2.mono (fun _ h=>h) hne (fun _ _=>rfl)⟩
         ·rw[List.getElem_set_ne hie]
          obtain⟨g1,g2⟩:=c6 q hq;refine⟨g1,fun m hm => ?_⟩;obtain⟨u,q1,q2⟩:=g2 m hm;refine⟨u,?_,q2.mono (fun _ h=>h) hne (fun _ _=>rfl)⟩;rw[Z1h _ _ _ _ (by rw[hvl];exact hbound),if_neg]
          ·exact q1
          ·intro hin
           rw[hvl] at hin;have hm':m<sz':=by rw[← g1];exact hm
           rcases Nat.lt_or_gt_of_ne hie with hlt2 | hgt
           ·have:=Nat.mul_le_mul_right sz' (show E+1≤q from hlt2)
            rw[Nat.add_mul] at this;omega
           ·have:=Nat.mul_le_mul_right sz' (show q+1≤E from hgt)
            rw[Nat.add_mul] at this;omega
        obtain⟨g1,g2⟩:=hrel.inv.update hk2 eκ hO;exact⟨undef,.skip,_,κ,I,.inr ⟨rfl,rfl⟩,hrun,g1,fun _ h=>h,g2,fun _ _ _=>rfl,.top _⟩
     ·simp at he
    ·simp at he
   ·simp at he
  ·simp at he
end Go.Pv
