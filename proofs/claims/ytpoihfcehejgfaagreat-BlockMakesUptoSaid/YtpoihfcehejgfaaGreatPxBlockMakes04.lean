import Derived.Laws.MakeOwn
import Derived.Lib.Builder
import Derived.Lib.MakeNoZero
import Derived.Lib.UnsafeStr
import Derived.Maps.RangeRun
import Derived.Maps.RangeWalk
import Derived.Test.YtpoihfcehejgfaaGreatPxBlockMakes03
set_option linter.unusedVariables false
set_option linter.unusedSimpArgs false
namespace Go.Pv
def xMax:Ext where
 f P o s:=match o.op with
  | .call { callee:=.builtin .max,args:=⟨[x,y]⟩,argTypes:=ts }=>match s.eval x,s.eval y with
   | .im (.sc (.int k a)),.im (.sc (.int _ b))=>some ⟨[],[],.im (.sc (.int k (if b>a then b else a))),[],[]⟩
   | _,_=>none
  | _=>none
 ok P o s e he hp:=by
  split at he
  ·rename_i x y ts ho
   split at he
   ·rename_i k a k' b hx hy
    obtain rfl:=Option.some.inj he;exact ok_pure _ [(x,.int k a),(y,.int k' b)] (by simp[ho,Op.operands,Call.operands,hx,hy]) (fun ρ hρ w=>by
     have h1:=hρ (x,.int k a) (by simp);have h2:=hρ (y,.int k' b) (by simp);simp only at h1 h2;simp[execOp,ho,resolve,invoke,builtin,h1,h2,Builtin.max_,Builtin.max2])
   ·simp at he
  ·simp at he
def xMin:Ext where
 f P o s:=match o.op with
  | .call { callee:=.builtin .min,args:=⟨[x,y]⟩,argTypes:=ts }=>match s.eval x,s.eval y with
   | .im (.sc (.int k a)),.im (.sc (.int _ b))=>some ⟨[],[],.im (.sc (.int k (if b<a then b else a))),[],[]⟩
   | _,_=>none
  | _=>none
 ok P o s e he hp:=by
  split at he
  ·rename_i x y ts ho
   split at he
   ·rename_i k a k' b hx hy
    obtain rfl:=Option.some.inj he;exact ok_pure _ [(x,.int k a),(y,.int k' b)] (by simp[ho,Op.operands,Call.operands,hx,hy]) (fun ρ hρ w=>by
     have h1:=hρ (x,.int k a) (by simp);have h2:=hρ (y,.int k' b) (by simp);simp only at h1 h2;simp[execOp,ho,resolve,invoke,builtin,h1,h2,Builtin.min_,Builtin.min2])
   ·simp at he
  ·simp at he
def xFunc:Ext where
 f P o s:=match o.op with
  | .makeFunc (.func g) ⟨[]⟩ caps=>some ⟨[],[],.fn g (caps.toList.map s.eval),[],[]⟩
  | _=>none
 ok P o s e he hp:=by
  split at he
  ·rename_i g caps ho
   obtain rfl:=Option.some.inj he;refine .quiet rfl fun Γ κ I s2 a w hP hrel hn => ?_;refine⟨.func (.func g) #[] (caps.toList.map a.eval).toArray,?_,.fn (by simp) (fun j h h' => ?_)⟩
   ·simp[execOp,ho,Instr.makeFunc]
    rw[← Array.toList_inj];simp
   ·rw[List.getElem_map,List.getElem_map]
    exact opd hrel hn _ (by simp[ho,Op.operands]) rfl
  ·simp at he
def bytesOK (xs:List Int):Prop:=∀ x∈xs,0≤x∧x<256
instance (xs:List Int):Decidable (bytesOK xs):=inferInstanceAs (Decidable (∀ x∈xs,0≤x∧x<256))
def xTake (k2:Nat) (es':List (List Im)):Ext where
 f P o s:=match o.op with
  | .slice t x none hi none=>match Z65   P t,s.eval x with
   | some (e,sz),.own k=>match s.obj k with
    | some (.row sz' el es)=>match optN s hi es.length,Nat.beq sz' sz with
     | some u,true=>some ⟨[k],[k2],.own k2,[(k2,some (.row sz el es')),(k,none)],[0≤u,u≤(es.length:Int),es'=es.take u.toNat]⟩
     | _,_=>none
    | _=>none
   | _,_=>none
  | _=>none
 ok P o s e he hp:=by
  split at he
  ·rename_i t x hi ho
   split at he
   ·rename_i e' sz k hel hx
    split at he
    ·rename_i sz' el es hk
     split at he
     ·rename_i u hu hsz
      obtain rfl:=Nat.eq_of_beq_eq_true hsz;obtain rfl:=Option.some.inj he;obtain⟨p1,p2,rfl,_⟩:=hp;obtain⟨hun,ag,hag⟩:=Z3q hel;refine .of fun Γ κ I s2 a w hP hrel hn hf => ?_;have hfk:=hf k2 (by simp[mkSp]);obtain⟨m1,m2,m3⟩:=Z9y (s:=s) ho;have g1:=opd hrel hn x m1 hx;have q1:optV ((none:Option Operand).map a.eval) 0 0:=Z5h hrel hn m2 (show optA s none 0 0 from rfl);have q2:=Z5h hrel hn m3 (Zbc hu);have hk2:=(Z1h hn k (by simp)).trans hk;have hO:=hrel.inv.objs k _ hk2;generalize ha:a.eval x=v at g1;cases g1 with
      | own0 base eκ =>
       simp only[OAt,eκ] at hO;obtain⟨_,_,e⟩:=hO;simp at e;obtain⟨rfl,rfl,rfl⟩:=e;simp only[List.length_nil] at p2;have hb:=Z2v (P:=P) (isSlice:=true) (len:=0) (cap:=0) q1 q2 (Int.le_refl 0) p1 (by omega) w;have e2:u.toNat=0:=by omega
       have hkill:=hrel.inv.kill [(k,none)] (by intro p hp;simp at hp;subst hp;rfl);have hfk':(s2.objput [(k,none)]).fresh k2:=Z8w hfk (by intro p hp;simp at hp;subst hp;rfl);obtain⟨i1,i2⟩:=hkill.emptyRow (sz:=sz') (el:=el) hfk';refine⟨.slice base 0 0,_,w,setK κ k2 none,I,.inl rfl,?_,?_,fun _ h=>h,fun _ _=>rfl,fun x k' hk'=>i2 x k' hk',?_⟩
       ·rw[Option.map_none,e2] at hb
        simp only[Int.toNat_zero] at hb;simp[execOp,ho,ha,Instr.sliceAt,Zx hun,Instr.slice,hb,Z1o hag,e2]
        try cases base<;>simp[Addr.add]
       ·rw[e2];exact i1
       ·exact .own0 base (Z1n ..)
      | @own _ ki eκ =>
       simp only[OAt,eκ] at hO;have hO':=hO;obtain⟨h1,h2,h3,arr,h4,h5,h6⟩:=hO;have hb:=Z2v (P:=P) (isSlice:=true) (len:=ki.len) (cap:=ki.cap) q1 (by rw[h2];exact q2) (Int.le_refl 0) p1 (by omega) w
       let ki':KI:=⟨ki.b,ki.cap,sz',u.toNat⟩
       have hO2:ORep (World.setBlock w ki.b (.cells arr el (0,0))) I (setK κ k2 (some ki')) ki' (.row sz' el (es.take u.toNat)):=by
        rw[Z5x h4];refine⟨rfl,by simp[ki'];omega,by simp[ki'];omega,arr,h4,h5,fun i hi => ?_⟩;simp only[List.length_take] at hi;rw[List.getElem_take];exact h6 i (by omega)
       obtain⟨i1,i2,i3⟩:=hrel.inv.move hk2 eκ hfk (ki':=ki') rfl hO2;rw[Z5x h4] at i1 i2;refine⟨.slice (some ⟨ki.b,0,none⟩) u.toNat ki.cap,_,w,setK κ k2 (some ki'),I,.inl rfl,?_,i1,fun _ h=>h,fun _ _=>rfl,i3,?_⟩
       ·rw[Option.map_none] at hb
        simp only[Int.toNat_zero] at hb;simp[execOp,ho,ha,Instr.sliceAt,Zx hun,Instr.slice,hb,Z1o hag]
        try simp[Addr.add]
       ·exact Rep.own (ki:=ki') (Z1n ..)
     ·simp at he
    ·simp at he
   ·simp at he
  ·simp at he
def xCutOwn (lo' n:Nat):Ext where
 f P o s:=match o.op with
  | .slice t x lo none none=>match Z65   P t,s.eval x with
   | some (e,sz),.own k=>match s.obj k with
    | some (.row sz' el es)=>match optN s lo 0,Nat.beq sz' sz with
     | some l,true=>some ⟨[k],[],.cut k lo' n,[],[l=(lo':Int),lo'+n=es.length]⟩
     | _,_=>none
    | _=>none
   | _,_=>none
  | _=>none
 ok P o s e he hp:=by
  split at he
  ·rename_i t x lo ho
   split at he
   ·rename_i e' sz k hel hx
    split at he
    ·rename_i sz' el es hk
     split at he
     ·rename_i l hl hsz
      obtain rfl:=Nat.eq_of_beq_eq_true hsz;obtain rfl:=Option.some.inj he;obtain⟨rfl,p2,_⟩:=hp;obtain⟨hun,ag,hag⟩:=Z3q hel;refine .quiet rfl fun Γ κ I s2 a w hP hrel hn => ?_;obtain⟨m1,m2,m3⟩:=Z9y (s:=s) ho;have g1:=opd hrel hn x m1 hx;have q1:=Z5h hrel hn m2 (Zbc hl);have q2:optV ((none:Option Operand).map a.eval) (es.length:Int) es.length:=Z5h hrel hn m3 (show optA s none (es.length:Int) es.length from rfl);have hO:=hrel.inv.objs k _ ((Z1h hn k (by simp)).trans hk);generalize ha:a.eval x=v at g1;cases g1 with
      | own0 base eκ =>
       simp only[OAt,eκ] at hO;obtain⟨_,_,e⟩:=hO;simp at e;obtain⟨rfl,rfl,rfl⟩:=e;simp only[List.length_nil] at p2 q2;obtain rfl:lo'=0:=by omega
       obtain rfl:n=0:=by omega
       have hb:=Z2v (P:=P) (isSlice:=true) (len:=0) (cap:=0) q1 q2 (by simp) (by simp) (by simp) w;refine⟨.slice base 0 0,?_,.cut0 base eκ⟩;rw[Option.map_none] at hb;simp at hb;simp[execOp,ho,ha,Instr.sliceAt,Zx hun,Instr.slice,hb,Z1o hag]
       try (cases base<;>simp)
      | @own _ ki eκ =>
       simp only[OAt,eκ] at hO;obtain⟨h1,h2,h3,arr,h4,h5,h6⟩:=hO;have hb:=Z2v (P:=P) (isSlice:=true) (len:=ki.len) (cap:=ki.cap) q1 (by rw[h2];exact q2) (by omega) (by omega) (by omega) w;have hn':es.length-lo'=n:=by omega
       rw[Option.map_none] at hb;simp only[Int.toNat_natCast] at hb;by_cases hc:ki.cap=lo'
       ·refine⟨.slice (some ⟨ki.b,0,none⟩) n (ki.cap-lo'),?_,.cut (off:=0) eκ (.inr hc.symm) (by omega)⟩
        rw[hc] at hb;simp[execOp,ho,ha,Instr.sliceAt,Zx hun,Instr.slice,hb,Z1o hag,hc,hn']
       ·refine⟨.slice (some ⟨ki.b,lo'*sz',none⟩) n (ki.cap-lo'),?_,.cut (off:=lo'*sz') eκ (.inl (by rw[h1])) (by omega)⟩
        simp[execOp,ho,ha,Instr.sliceAt,Zx hun,Instr.slice,hb,Z1o hag,hc,hn',Z4q]
     ·simp at he
    ·simp at he
   ·simp at he
  ·simp at he
def outSc (objs:List (Nat×Option MObj)):List (Nat×Nat)→Option (List Prop)
 | []=>some []
 | (kc,_)::r=>match (⟨[],objs,0⟩:Z6    ).obj kc,outSc objs r with
  | some (.row _ _ es),some l=>some ((∀ c∈es,∀ x∈c,∃ v,x=Im.sc v)::l)
  | none,some l=>some l
  | _,_=>none
theorem outSc_ok {objs:List (Nat×Option MObj)}:∀ {out:List (Nat×Nat)} {l:List Prop},outSc objs out=some l→AllP l→∀ kc k o,(kc,k)∈out→(⟨[],objs,0⟩:Z6).obj kc=some o→ScObj o:=by
 intro out
 induction out with
 | nil=>intro l _ _ kc k o hm;simp at hm
 | cons p r ih =>
  intro l h hp kc k o hm ho;obtain⟨kp,k'⟩:=p;simp only[outSc] at h;split at h
  ·rename_i sz el es l' e1 e2
   obtain rfl:=Option.some.inj h;simp only[AllP] at hp;rcases List.mem_cons.1 hm with hm | hm
   ·obtain⟨rfl,rfl⟩:=Prod.mk.inj hm
    rw[e1] at ho;obtain rfl:=Option.some.inj ho;exact⟨sz,el,es,rfl,hp.1⟩
   ·exact ih e2 hp.2 kc k o hm ho
  ·rename_i l' e1 e2
   obtain rfl:=Option.some.inj h;rcases List.mem_cons.1 hm with hm | hm
   ·obtain⟨rfl,rfl⟩:=Prod.mk.inj hm
    rw[e1] at ho;simp at ho
   ·exact ih e2 hp kc k o hm ho
  ·simp at h
def xCallV (inv out:List (Nat×Nat)) (vk news:List Nat) (floor:Nat) (r:AVal) (objs:List (Nat×Option MObj)):Ext where
 f P o s:=match o.op with
  | .call { callee:=.value fo,args:=as,argTypes:=ts }=>match funOf (s.eval fo) with
   | some (g,caps)=>match Z8j     s vk with
    | some views=>match Z7c    inv out views news floor&&inv.all (fun p=>(s.obj p.1).isSome)&&Z4e   r with
     | true=>match outSc objs out with
      | some l=>some ⟨inv.map (·.1)++views.map (·.1),news,pass out [] r,Z5z     ⟨[],objs,0⟩ out inv (views.map (·.1)) true,
       Enters P g::Fn P g ((as.toList.map s.eval++caps).map (fun x=>Z9i (pass inv views x))) (Z6l s inv views) floor (fun r' o'=>r'=r∧o'=objs)::l⟩
      | none=>none
     | false=>none
    | none=>none
   | _=>none
  | _=>none
 ok P o s e he hp:=by
  split at he
  ·rename_i fo as ts ho
   split at he
   ·rename_i g caps hfo
    split at he
    ·rename_i views hv
     split at he
     ·rename_i hb
      split at he
      ·rename_i l hl
       simp only[Bool.and_eq_true] at hb;obtain⟨⟨b1,b2⟩,b3⟩:=hb;obtain rfl:=Option.some.inj he;simp only[AllP] at hp;exact ok_callG inv out views news floor Z9i (fun _ _ _ _ _ h=>Z7u h) ho hfo hp.1 rfl (Z8i hv) b2 b1 hp.2.1 true (fun _=>⟨b3,outSc_ok hl hp.2.2⟩)
      ·simp at he
     ·simp at he
    ·simp at he
   ·simp at he
  ·simp at he
theorem all_sc {α:Type} (xs:List α) (f:α→List Im) (h:∀ y,∀ x∈f y,∃ v,x=Im.sc v):∀ c∈xs.map f,∀ x∈c,∃ v,x=Im.sc v:=by
 intro c hc;obtain⟨y,_,rfl⟩:=List.mem_map.1 hc;exact h y
theorem Z7o {z:Array Value} {n i j:Nat} (hi:i<n) (hj:j<z.size):(Builtin.zeroCells z n).toList[i*z.size+j]? = z[j]? := by
 have hlt:i*z.size+j<n*z.size:=Z6a hi hj;have hm:(i*z.size+j) % z.size=j:=by rw[Nat.mul_comm,Nat.mul_add_mod,Nat.mod_eq_of_lt hj]
 simp only[Builtin.zeroCells,Array.toList_map,List.getElem?_map,Array.getElem?_toList];simp[hlt,hm,hj]
def xClear (es':List (List Im)):Ext where
 f P o s:=match o.op with
  | .call { callee:=.builtin .clear,args:=⟨[x]⟩,argTypes:=ts }=>match ts[0]? with
   | some t=>match Z65   P t,s.eval x with
    | some (e,sz),.cut k lo n=>match s.obj k,Z7p   P e with
     | some (.row sz' el es),some z=>match toImL (Z10      z) with
      | some zs=>match Nat.beq sz' sz&&Nat.beq zs.length sz&&Z2c    (Z10      z)&&Nat.blt 0 sz with
       | true=>some ⟨[k],[],.top,[(k,some (.row sz' el es'))],[es'=es.take lo++List.replicate n zs,lo+n=es.length]⟩
       | false=>none
      | none=>none
     | _,_=>none
    | _,_=>none
   | none=>none
  | _=>none
 ok P o s e he hp:=by
  split at he
  ·rename_i x ts ho
   split at he
   ·rename_i t hts
    split at he
    ·rename_i el0 sz k lo n hel hx
     split at he
     ·rename_i sz' el es z hk hz
      split at he
      ·rename_i zs hzs
       split at he
       ·rename_i hb
        simp only[Bool.and_eq_true,Nat.blt_eq] at hb;obtain⟨⟨⟨b1,b2⟩,b3⟩,b4⟩:=hb;obtain rfl:=Nat.eq_of_beq_eq_true b1;have b2:=Nat.eq_of_beq_eq_true b2;obtain rfl:=Option.some.inj he;obtain⟨rfl,p2,_⟩:=hp;obtain⟨hun,ag,hag⟩:=Z3q hel;obtain⟨i0,zv,hinfo,hzero,hzc⟩:∃ i zv,P.info? el0=some i∧i.zero=some zv∧z=Z87 zv:=by
         unfold Z7p at hz;cases hi:P.info? el0 with
         | none=>rw[hi] at hz;simp at hz
         | some i =>
          cases hzz:i.zero with
          | none=>rw[hi] at hz;simp[hzz] at hz
          | some zv=>rw[hi] at hz;simp[hzz] at hz;exact⟨i,zv,rfl,hzz,hz.symm⟩
        subst hzc;obtain⟨t1,t2⟩:=Za3 hzs;refine .of fun Γ κ I s2 a w hP hrel hn hf => ?_;have g1:=opd hrel hn x (by simp[ho,Op.operands,Call.operands]) hx;have hk2:=(Z1h hn k (by simp)).trans hk;have hO:=hrel.inv.objs k _ hk2;have same:es.take lo++List.replicate n zs=es→Inv Γ κ I (s2.objput [(k,some (.row sz' el (es.take lo++List.replicate n zs)))]) w:=by
         intro e;rw[e];refine hrel.inv.eqv (fun k' o' h => ?_) rfl;rw[Z6.obj_objput,Z19] at h;by_cases ek:k=k'
         ·subst ek;rw[if_pos rfl] at h;simp at h;rw[← h];exact hk2
         ·rw[if_neg ek] at h;simpa[look] using h
        generalize ha:a.eval x=v at g1;cases g1 with
        | cut0 base eκ =>
         simp only[OAt,eκ] at hO;obtain⟨_,_,e⟩:=hO;simp at e;obtain⟨rfl,rfl,rfl⟩:=e;refine⟨.tuple #[],_,w,κ,I,.inl rfl,?_,same (by simp),fun _ h=>h,fun _ _=>rfl,fun _ _ _=>rfl,.top _⟩;simp only[execOp,ho,resolve,Deferred.ofValue,Sem.run_bind,Sem.run_pure,Result.andThen_ok,invoke,builtin];cases base<;>simp[ha,Builtin.clear_,hts,Zx hun]
        | @cut _ _ _ off ki eκ h1 h2 =>
         simp only[OAt,eκ] at hO;obtain⟨c1,c2,c3,arr,c4,c5,c6⟩:=hO;by_cases hn0:n=0
         ·subst hn0
          refine⟨.tuple #[],_,w,κ,I,.inl rfl,?_,same (by rw[List.take_of_length_le (by omega)];simp),fun _ h=>h,fun _ _=>rfl,fun _ _ _=>rfl,.top _⟩;simp[execOp,ho,resolve,invoke,builtin,ha,Builtin.clear_,hts,Zx hun]
         have hoff:off=lo*sz':=by
          rcases h1 with h1 | h1
          ·rw[h1,c1]
          ·exfalso;exact hn0 (by omega)
         subst hoff;obtain⟨v1,v2,v3⟩:=Z2x (Z4k w I κ zv) b3;have hzsz:zv.cells.size=sz':=by rw[v1,← t1,b2]
         let vs:=(Builtin.zeroCells zv.cells n).toList
         have hvl:vs.length=n*sz':=by simp[vs,Z77,hzsz]
         have hleaf:∀ u∈vs,Z8v u=true:=by
          intro u hu;obtain⟨q,hq,rfl⟩:=List.mem_iff_getElem.1 hu;rw[hvl] at hq;have hm:q % sz'<sz':=Nat.mod_lt _ b4;have hd:q / sz'<n:=Nat.div_lt_of_lt_mul (by rw[Nat.mul_comm];exact hq);have hg:=Z7o (z:=zv.cells) (n:=n) (i:=q / sz') (j:=q % sz') hd (by rw[hzsz];exact hm);rw[hzsz,Nat.div_add_mod' q sz'] at hg;have hq2:vs[q]? = some vs[q]:=List.getElem?_eq_getElem (by rw[hvl];exact hq);have:zv.cells[q % sz']? = some vs[q]:=by rw[← hg];exact hq2
          exact v3 _ (Array.mem_toList_iff.2 (Array.mem_of_getElem? this))
         have hbound:lo*sz'+vs.length≤arr.size:=by
          rw[hvl,c5,← Nat.add_mul];exact Nat.mul_le_mul_right _ h2
         let ob:Obj:=.cells (Z21 arr (lo*sz') vs) el (0,0)
         have hb:ki.b<w.heap.size:=(Array.getElem?_eq_some_iff.1 c4).1;have hne:∀ b,I b→(World.setBlock w ki.b ob).heap[b]? = w.heap[b]? := fun b hb'=>by
          rw[Z13 _ _ _ _ hb,if_neg];rintro rfl;exact hrel.inv.disj k _ ki hk2 eκ hb'
         have hrun:(Builtin.clear_ ts o.type #[.slice (some ⟨ki.b,lo*sz',none⟩) n (ki.cap-lo)]).run P w = .ok (.tuple #[]) (World.setBlock w ki.b ob):=by
          have hst:=Z55 (P:=P) (b:=ki.b) (el:=el) vs w arr (lo*sz') c4 hbound hleaf;obtain⟨m,rfl⟩:∃ m,n=m+1:=⟨n-1,by omega⟩
          have hz':(zeroValue el0).run P w = .ok zv w:=by simp[zeroValue,Z1l hinfo,hzero]
          simp only[Builtin.clear_,hts];simp[Zx hun,hz',ob,vs] at hst ⊢;rw[hst];rfl
         have hO:ORep (World.setBlock w ki.b ob) I κ ki (.row sz' el (es.take lo++List.replicate n zs)):=by
          refine⟨c1,by simp;omega,by simp;omega,Z21 arr (lo*sz') vs,by rw[Z13 _ _ _ _ hb,if_pos rfl],by rw[Z3c];exact c5,fun i hi => ?_⟩;simp only[List.length_append,List.length_take,List.length_replicate] at hi;by_cases hlt:i<lo
          ·rw[List.getElem_append_left (by simp;omega),List.getElem_take]
           obtain⟨q1,q2⟩:=c6 i (by omega);refine⟨q1,fun j hj => ?_⟩;obtain⟨u,u1,u2⟩:=q2 j hj;refine⟨u,?_,u2.mono (fun _ h=>h) hne⟩;rw[Z2u _ _ _ _ hbound,if_neg]
           ·exact u1
           ·have:=Z6a hlt (show j<sz' by omega);omega
          ·rw[List.getElem_append_right (by simp;omega),List.getElem_replicate]
           refine⟨b2,fun j hj => ?_⟩;rw[b2] at hj;obtain⟨u,u1,u2⟩:=v2 j (by omega);refine⟨u,?_,(toIm_rep u2 (t2 j (by omega) (by omega))).mono (fun _ h=>h) hne⟩;have hil:i-lo<n:=by omega
           have e1:i*sz'+j-lo*sz'=(i-lo)*sz'+j:=by
            rw[Nat.sub_mul];have:=Nat.mul_le_mul_right sz' (show lo≤i by omega);omega
           have e2:=Z6a hil hj;have e3:=Nat.mul_le_mul_right sz' (show lo≤i by omega);rw[Z2u _ _ _ _ hbound,if_pos (by rw[hvl];omega),e1];have hg:=Z7o (z:=zv.cells) (n:=n) (i:=i-lo) (j:=j) hil (by rw[hzsz];exact hj);rw[hzsz] at hg;show vs[(i-lo)*sz'+j]? = some u;rw[hg];exact u1
         obtain⟨f1,f2⟩:=hrel.inv.update hk2 eκ hO;refine⟨.tuple #[],_,_,κ,I,.inl rfl,?_,f1,fun _ h=>h,f2,fun _ _ _=>rfl,.top _⟩;simp only[execOp,ho,resolve,Deferred.ofValue,Sem.run_bind,Sem.run_pure,Result.andThen_ok,invoke,builtin];simp[ha,hrun]
       ·simp at he
      ·simp at he
     ·simp at he
    ·simp at he
   ·simp at he
  ·simp at he
end Go.Pv
namespace Go.Pv
open Go.Instr
def hit {K:Type} [DecidableEq K] (a:K):List K→List MapEntry→Nat→Option (Nat×Value)
 | k::ks,e::es,i=>if k=a then some (i,e.val) else hit a ks es (i+1)
 | _,_,_=>none
structure Z5v (P:Program) (t:TypeId) {K:Type} [DecidableEq K] (vk:K→Value):Prop where
 check:∀ b a w,(checkKey b 10000 t (vk a)).run P w = .ok () w
 find:∀ a (es:List MapEntry) (ks:List K) w,es.map (·.key)=ks.map vk→(findKey t (vk a) es).run P w = .ok (hit a ks es 0) w
 same:∀ a w,(keyThatStays (vk a) (vk a)).run P w = .ok (vk a) w
theorem Zbk {K:Type} [DecidableEq K] {d:TypeDesc} {vk:K→Value} (h:∀ a b,sameNow d (vk a) (vk b)=some (decide (b=a))) (a:K):∀ (es:List MapEntry) (ks:List K) (i:Nat),es.map (·.key)=ks.map vk→findNow d (vk a) es i=some (hit a ks es i)
 | [],[],i,_=>by simp[findNow,hit]
 | [],k::ks,i,e=>by simp at e
 | e::es,[],i,q=>by simp at q
 | e::es,k::ks,i,q=>by
  simp only[List.map_cons,List.cons.injEq] at q;rw[findNow,q.1,h,hit];by_cases c:k=a
  ·simp[c]
  ·simp[c,Zbk h a es ks (i+1) q.2]
theorem key_plain {K:Type} [DecidableEq K] {P:Program} {t:TypeId} {d:TypeDesc} {vk:K→Value} (ht:P.underlying t=some d) (hc:∀ b a w,(checkKey b 10000 t (vk a)).run P w = .ok () w) (h:∀ a b,sameNow d (vk a) (vk b)=some (decide (b=a))) (hs:∀ a,sameBits 10000 (vk a) (vk a)=true):Z5v P t vk where
 check:=hc
 find a es ks w q:=by
  simp only[findKey,Sem.run_bind,Zx ht,Result.andThen_ok,Zbk h a es ks 0 q,Sem.run_pure]
 same a w:=by simp[keyThatStays,hs]
theorem key_int {P:Program} {t:TypeId} {q:IntKind} (ht:P.underlying t=some (.int q)):Z5v P t (fun a:Int=>Value.int q a) :=
 key_plain ht (fun b a w=>by
  have:∀ n,(checkKey b (n+1) t (.int q a)).run P w = .ok () w:=fun n=>by simp[checkKey,Zx ht]
  exact this 9999) (fun a b=>by
  simp only[sameNow,if_true];congr 1;by_cases c:b=a
  ·subst c;simp
  ·simp[c];exact fun h=>c (Eq.symm h)) (fun a=>by simp[sameBits])
def mE {K V:Type} (vk:K→Value) (iv:V→Im) (l:List (K×V)):List (Value×Im):=l.map fun p=>(vk p.1,iv p.2)
def mput {K V:Type} [DecidableEq K]:List (K×V)→K→V→List (K×V)
 | [],k,v=>[(k,v)]
 | p::l,k,v=>if p.1=k then(k,v)::l else p::mput l k v
def mget {K V:Type} [DecidableEq K]:List (K×V)→K→Option V
 | [],_=>none
 | p::l,k=>if p.1=k then some p.2 else mget l k
theorem Zan {K V:Type} [DecidableEq K] (k:K):∀ (l:List (K×V)) (E:List MapEntry) (off:Nat),E.length=l.length →
  (hit k (l.map (·.1)) E off=none∧mget l k=none∧∀ v,mput l k v=l++[(k,v)]) ∨
  ∃ i e p,E[i]? = some e∧l[i]? = some p∧p.1=k∧hit k (l.map (·.1)) E off=some (off+i,e.val)∧mget l k=some p.2∧∀ v,mput l k v=l.set i (k,v)
 | [],E,off,_=>.inl ⟨by simp[hit],rfl,fun v=>rfl⟩
 | p::l,[],off,h=>by simp at h
 | p::l,e::E,off,h=>by
  by_cases c:p.1=k
  ·exact .inr ⟨0,e,p,rfl,rfl,c,by simp[hit,c],by simp[mget,c],fun v=>by simp[mput,c]⟩
  ·rcases Zan    k l E (off+1) (by simpa using h) with ⟨h1,h2,h3⟩ | ⟨i,e',p',h1,h2,h3,h4,h5,h6⟩
   ·exact .inl ⟨by simp[hit,c,h1],by simp[mget,c,h2],fun v=>by simp[mput,c,h3]⟩
   ·exact .inr ⟨i+1,e',p',by simpa using h1,by simpa using h2,h3,by simp[hit,c,h4];omega,by simp[mget,c,h5],fun v=>by simp[mput,c,h6]⟩
theorem Z6t {P:Program} {w:World} {b:Nat} {arr:Array MapEntry} {c:Nat} (hb:w.heap[b]? = some (.map arr c)):(getObj b).run P w = .ok (.map arr c) w:=by simp[getObj,Sem.run,hb]
theorem Zb9 {P:Program} {w:World} {b:Nat} {arr:Array MapEntry} {c:Nat} {o':Obj} (hb:w.heap[b]? = some (.map arr c)):(setObj b o').run P w = .ok () (World.setBlock w b o'):=by simp[setObj,Sem.run,hb,World.setBlock]
theorem Za6 {P:Program} {t kt et:TypeId} {K:Type} [DecidableEq K] {vk:K→Value} {w:World} {b:Nat} {arr:Array MapEntry} {clock:Nat} {ks:List K} {z:Value} {c:Bool} {k:K} (ht:P.underlying t=some (.map kt et)) (hk:Z5v P kt vk) (hb:w.heap[b]? = some (.map arr clock)) (hks:arr.toList.map (·.key)=ks.map vk) (hz:(zeroValue et).run P w = .ok z w) :
  (lookup t (.map (some b)) (vk k) c).run P w = .ok (if c then .tuple #[((hit k ks arr.toList 0).map (·.2)).getD z,.bool (hit k ks arr.toList 0).isSome] else((hit k ks arr.toList 0).map (·.2)).getD z) w:=by
 simp only[lookup,Sem.run_bind,Zx ht,Result.andThen_ok,Z6t hb,Sem.run_pure,hk.check,hk.find k arr.toList ks w hks];cases hit k ks arr.toList 0 with
 | none=>simp[hz]
 | some p=>simp
theorem run_mput {P:Program} {t kt et:TypeId} {K:Type} [DecidableEq K] {vk:K→Value} {w:World} {b:Nat} {arr:Array MapEntry} {clock:Nat} {ks:List K} {k:K} {v:Value} (ht:P.underlying t=some (.map kt et)) (hk:Z5v P kt vk) (hb:w.heap[b]? = some (.map arr clock)) (hks:arr.toList.map (·.key)=ks.map vk) :
  (hit k ks arr.toList 0=none→(mapUpdate t (.map (some b)) (vk k) v).run P w = .ok () (World.setBlock w b (.map (arr.push ⟨vk k,v,clock⟩) (clock+1)))) ∧
  ∀ i u e,hit k ks arr.toList 0=some (i,u)→arr[i]? = some e→e.key=vk k→(mapUpdate t (.map (some b)) (vk k) v).run P w = .ok () (World.setBlock w b (.map (arr.modify i fun e => { e with key:=vk k,val:=v }) clock)):=by
 constructor
 ·intro h
  simp only[mapUpdate,Sem.run_bind,Zx ht,Result.andThen_ok,Z6t hb,hk.check,hk.find k arr.toList ks w hks,h,Zb9 hb]
 ·intro i u e h he hkey
  simp only[mapUpdate,Sem.run_bind,Zx ht,Result.andThen_ok,Z6t hb,hk.check,hk.find k arr.toList ks w hks,h,he,Option.map_some,Option.getD_some,hkey,hk.same,Zb9 hb]
theorem Zak {w:World} {I:Nat→Prop} {κ:Nat→Option KI} {k:Nat} {es:List (Value×Im)} (h:OAt w I κ k (.map es)):∃ ki arr,κ k=some ki∧w.heap[ki.b]? = some (.map arr es.length)∧arr.size=es.length ∧
  ∀ i (h:i<es.length),∃ e,arr[i]? = some e∧e.born=i∧e.key=(es[i]).1∧IRep w I (es[i]).2 e.val:=by
 unfold OAt at h;cases e:κ k with
 | none=>rw[e] at h;obtain⟨_,_,h⟩:=h;simp at h
 | some ki=>rw[e] at h;obtain⟨arr,h1,h2,h3⟩:=h;exact⟨ki,arr,rfl,h1,h2,h3⟩
theorem Z61 {w:World} {I:Nat→Prop} {κ:Nat→Option KI} {k:Nat} {v:Value} (h:Rep w I κ (.mown k) v):∃ ki,κ k=some ki∧v = .map (some ki.b):=by
 cases h with
 | mown e=>exact⟨_,e,rfl⟩
theorem keys_mE {K V:Type} {vk:K→Value} {iv:V→Im} {l:List (K×V)} {arr:Array MapEntry} (hs:arr.size=(mE vk iv l).length) (h:∀ i (h:i<(mE vk iv l).length),∃ e,arr[i]? = some e∧e.born=i∧e.key=((mE vk iv l)[i]).1∧True):arr.toList.map (·.key)=(l.map (·.1)).map vk:=by
 apply List.ext_getElem
 ·simp[hs,mE]
 ·intro i h1 h2
  simp only[List.length_map,Array.length_toList] at h1;obtain⟨e,e1,_,e3,_⟩:=h i (by omega);rw[Array.getElem?_eq_getElem h1] at e1;obtain rfl:=Option.some.inj e1;simp[e3,mE]
def valA:AVal→Option Value
 | .im (.sc v)=>some v
 | .agg cells=>(Z6e cells).map fun vs=>.agg vs.toArray
 | _=>none
theorem Z6p {w:World} {I:Nat→Prop} {κ:Nat→Option KI} {x:AVal} {v u:Value} (h:valA x=some v) (hr:Rep w I κ x u):u=v:=by
 unfold valA at h;split at h
 ·obtain rfl:=Option.some.inj h;exact hr.sc_inv
 ·rename_i cells
  cases e:Z6e cells with
  | none=>rw[e] at h;simp at h
  | some vs=>rw[e] at h;simp at h;rw[← h];exact agg_sc e hr
 ·simp at h
def xMk (k:Nat):Ext where
 f P o s:=match o.op with
  | .makeMap t none=>some ⟨[],[k],.mown k,[(k,some (.map []))],[]⟩
  | _=>none
 ok P o s e he hp:=by
  split at he
  ·rename_i t ho
   obtain rfl:=Option.some.inj he;refine .of fun Γ κ I s2 a w hP hr hn hf => ?_;have hfk:=hf k (by simp[mkSp])
   let ki:KI:=⟨w.heap.size,0,0,0⟩
   have hO:ORep (World.alloc' w (.map #[] 0)) I (setK κ k (some ki)) ki (.map []):=⟨#[],Z4b _ _,rfl,fun i h=>absurd h (Nat.not_lt_zero _)⟩
   obtain⟨f1,f2,f3⟩:=hr.inv.alloc hfk (ki:=ki) rfl hO;refine⟨_,_,_,_,I,.inl rfl,?_,f1,fun _ h=>h,f2,f3,.mown (ki:=ki) (Z1n ..)⟩;simp[execOp,ho,makeMap,newObj,Sem.run,World.alloc',ki]
  ·simp at he
def putOp:Op→Option (TypeId×Operand×Operand×Operand)
 | .mapUpdate t m k x=>some (t,m,k,x)
 | .insert t m k x=>some (t,m,k,x)
 | _=>none
theorem putOp_of {o:Op} {t:TypeId} {x y z:Operand} (h:putOp o=some (t,x,y,z)):o = .mapUpdate t x y z∨o = .insert t x y z:=by
 unfold putOp at h;split at h
 ·simp at h;obtain⟨rfl,rfl,rfl,rfl⟩:=h;exact .inl rfl
 ·simp at h;obtain⟨rfl,rfl,rfl,rfl⟩:=h;exact .inr rfl
 ·simp at h
def xPut {K V:Type} [DecidableEq K] (vk:K→Value) (iv:V→Im) (l:List (K×V)) (k:K) (v:V):Ext where
 f P o s:=match putOp o.op with
  | some (t,x,y,z)=>match P.underlying t,s.eval x,s.eval z with
   | some (.map kt et),.mown m,.im u=>match s.obj m with
    | some (.map es)=>some ⟨[m],[],.top,[(m,some (.map (mE vk iv (mput l k v))))],[Z5v P kt vk,es=mE vk iv l,valA (s.eval y)=some (vk k),u=iv v]⟩
    | _=>none
   | _,_,_=>none
  | none=>none
 ok P o s e he hp:=by
  split at he
  ·rename_i t x y z hop
   have hop:=putOp_of hop;split at he
   ·rename_i kt et m u ht hx hz
    split at he
    ·rename_i es hm
     obtain rfl:=Option.some.inj he;obtain⟨hK,rfl,hy,rfl,_⟩:=hp;refine .of fun Γ κ I s2 a w hP hr hn hf => ?_;have g1:=opd hr hn x (by rcases hop with ho | ho<;>simp[ho,Op.operands]) hx;have g2:=Z6p hy (opd hr hn y (by rcases hop with ho | ho<;>simp[ho,Op.operands]) rfl);have g3:=opd hr hn z (by rcases hop with ho | ho<;>simp[ho,Op.operands]) hz;have hm2:=(Z1h hn m (by simp)).trans hm;obtain⟨ki,eκ,ex⟩:=Z61 g1;obtain⟨ki',arr,eκ',h1,h2,h3⟩:=Zak (hr.inv.objs m _ hm2);rw[eκ] at eκ';obtain rfl:=Option.some.inj eκ';have hks:=keys_mE h2 (fun i hi=>let ⟨e,a1,a2,a3,_⟩:=h3 i hi;⟨e,a1,a2,a3,trivial⟩);have hlen:(mE vk iv l).length=l.length:=by simp[mE]
     obtain⟨r1,r2⟩:=run_mput (v:=a.eval z) (k:=k) ht hK h1 hks;have hb:ki.b<w.heap.size:=(Array.getElem?_eq_some_iff.1 h1).1;have hne:∀ ob b,I b→(World.setBlock w ki.b ob).heap[b]? = w.heap[b]? := fun ob b hb'=>by
      rw[Z13 _ _ _ _ hb,if_neg];rintro rfl;exact hr.inv.disj m _ ki hm2 eκ hb'
     have hv:IRep w I (iv v) (a.eval z):=by cases g3 with | im h=>exact h
     have fin:∀ ob,(execOp a.eval o).run P w = .ok .skip (World.setBlock w ki.b ob)→ORep (World.setBlock w ki.b ob) I κ ki (.map (mE vk iv (mput l k v))) →
       ∃ v' nx w' κ' I',Gives v' nx∧(execOp a.eval o).run P w = .ok nx w'∧Inv Γ κ' I' (s2.objput [(m,some (.map (mE vk iv (mput l k v))))]) w'∧(∀ b,I b→I' b)∧(∀ b,I b→w'.heap[b]? = w.heap[b]?)∧(∀ x k,(s2.get x).has k=true→κ' k=κ k)∧Rep w' I' κ' .top v':=by
      intro ob hrun hO;obtain⟨f1,f2⟩:=hr.inv.update hm2 eκ hO;exact⟨_,_,_,κ,I,.inr ⟨rfl,rfl⟩,hrun,f1,fun _ h=>h,f2,fun _ _ _=>rfl,.top _⟩
     rcases Zan k l arr.toList 0 (by simp[h2,hlen]) with ⟨q1,q2,q3⟩ | ⟨i,e,p,q1,q2,q3,q4,q5,q6⟩
     ·refine fin (.map (arr.push ⟨vk k,a.eval z,(mE vk iv l).length⟩) ((mE vk iv l).length+1)) (by rcases hop with ho | ho<;>simp only[execOp,ho,ex,g2,Sem.run_bind,r1 q1,Result.andThen_ok,Sem.run_pure]) ?_
      rw[q3];refine⟨arr.push ⟨vk k,a.eval z,(mE vk iv l).length⟩,by rw[Z13 _ _ _ _ hb,if_pos rfl];simp[mE],by simp[mE,h2],fun i hi => ?_⟩;simp only[mE,List.length_map,List.length_append,List.length_cons,List.length_nil] at hi;by_cases c:i<l.length
      ·obtain⟨e,a1,a2,a3,a4⟩:=h3 i (by omega)
       refine⟨e,by rw[Array.getElem?_push,if_neg (by omega),a1],a2,?_,?_⟩
       ·rw[a3];simp[mE,List.getElem_append,c]
       ·have:(mE vk iv (l++[(k,v)]))[i]'(by simp[mE];omega)=(mE vk iv l)[i]'(by omega):=by simp[mE,List.getElem_append,c]
        rw[this];exact a4.mono (fun _ h=>h) (hne _)
      ·have hi':i=l.length:=by omega
       refine⟨⟨vk k,a.eval z,(mE vk iv l).length⟩,by rw[Array.getElem?_push,if_pos (by omega)],by simp[mE,hi'],by simp[mE,hi'],?_⟩;have:(mE vk iv (l++[(k,v)]))[i]'(by simp[mE];omega)=(vk k,iv v):=by simp[mE,hi']
       rw[this];exact hv.mono (fun _ h=>h) (hne _)
     ·have q1':arr[i]? = some e:=by simpa using q1
      have hil:i<l.length:=(List.getElem?_eq_some_iff.1 q2).1;obtain⟨e',a1,a2,a3,a4⟩:=h3 i (by omega);rw[q1'] at a1;obtain rfl:=Option.some.inj a1;have hkey:e.key=vk k:=by
       rw[a3];have:=(List.getElem?_eq_some_iff.1 q2).2;simp[mE,this,q3]
      have hrun:=r2 i e.val e (by rw[q4];simp) q1' hkey;refine fin (.map (arr.modify i fun e => { e with key:=vk k,val:=a.eval z }) (mE vk iv l).length) (by rcases hop with ho | ho<;>simp only[execOp,ho,ex,g2,Sem.run_bind,hrun,Result.andThen_ok,Sem.run_pure]) ?_;rw[q6];refine⟨arr.modify i fun e => { e with key:=vk k,val:=a.eval z },by rw[Z13 _ _ _ _ hb,if_pos rfl];simp[mE],by simp[mE,h2],fun j hj => ?_⟩;simp only[mE,List.length_map,List.length_set] at hj;obtain⟨e2,b1,b2,b3,b4⟩:=h3 j (by omega);by_cases c:i=j
      ·subst c
       refine⟨{ e with key:=vk k,val:=a.eval z },by simp[Array.getElem?_modify,q1'],a2,by simp[mE],?_⟩;have:(mE vk iv (l.set i (k,v)))[i]'(by simp[mE];omega)=(vk k,iv v):=by simp[mE]
       rw[this];exact hv.mono (fun _ h=>h) (hne _)
      ·refine⟨e2,by simp[Array.getElem?_modify,c,b1],b2,?_,?_⟩
       ·rw[b3];simp[mE,List.getElem_set,c]
       ·have:(mE vk iv (l.set i (k,v)))[j]'(by simp[mE];omega)=(mE vk iv l)[j]'(by omega):=by simp[mE,List.getElem_set,c]
        rw[this];exact b4.mono (fun _ h=>h) (hne _)
    ·simp at he
   ·simp at he
  ·simp at he
def xLook {K V:Type} [DecidableEq K] (vk:K→Value) (iv:V→Im) (l:List (K×V)) (k:K) (v0:V):Ext where
 f P o s:=match o.op with
  | .lookup t x y c=>match P.underlying t,s.eval x with
   | some (.map kt et),.mown m=>match s.obj m,Z7p   P et with
    | some (.map es),some (.im z)=>some ⟨[m],[],(match c with
      | true=>.tup [.im (iv ((mget l k).getD v0)),.im (.sc (.bool (mget l k).isSome))]
      | false=>.im (iv ((mget l k).getD v0))),[],[Z5v P kt vk,es=mE vk iv l,valA (s.eval y)=some (vk k),z=iv v0]⟩
    | _,_=>none
   | _,_=>none
  | _=>none
 ok P o s e he hp:=by
  split at he
  ·rename_i t x y c ho
   split at he
   ·rename_i kt et m ht hx
    split at he
    ·rename_i es z hm hz
     obtain rfl:=Option.some.inj he;obtain⟨hK,rfl,hy,rfl,_⟩:=hp;unfold Z7p at hz;cases hi:P.info? et with
     | none=>rw[hi] at hz;simp at hz
     | some i =>
      cases hzz:i.zero with
      | none=>rw[hi] at hz;simp[hzz] at hz
      | some zv =>
       rw[hi] at hz;simp[hzz] at hz;refine .quiet rfl fun Γ κ I s2 a w hP hr hn => ?_;have g1:=opd hr hn x (by simp[ho,Op.operands]) hx;have g2:=Z6p hy (opd hr hn y (by simp[ho,Op.operands]) rfl);have hm2:=(Z1h hn m (by simp)).trans hm;obtain⟨ki,eκ,ex⟩:=Z61 g1;obtain⟨ki',arr,eκ',h1,h2,h3⟩:=Zak (hr.inv.objs m _ hm2);rw[eκ] at eκ';obtain rfl:=Option.some.inj eκ';have hks:=keys_mE h2 (fun i hi=>let ⟨e,a1,a2,a3,_⟩:=h3 i hi;⟨e,a1,a2,a3,trivial⟩);have hlen:(mE vk iv l).length=l.length:=by simp[mE]
       have hz0:(zeroValue et).run P w = .ok zv w:=by simp[zeroValue,Z1l hi,hzz]
       have hrun:=Za6 (k:=k) (c:=c) ht hK h1 hks hz0;have hrep:Rep w I κ (.im (iv ((mget l k).getD v0))) (((hit k (l.map (·.1)) arr.toList 0).map (·.2)).getD zv)∧(hit k (l.map (·.1)) arr.toList 0).isSome=(mget l k).isSome:=by
        rcases Zan k l arr.toList 0 (by simp[h2,hlen]) with ⟨q1,q2,q3⟩ | ⟨i,e,p,q1,q2,q3,q4,q5,q6⟩
        ·rw[q1,q2]
         refine⟨?_,rfl⟩;have:=Z4k w I κ zv;rw[hz] at this;exact this
        ·rw[q4,q5]
         refine⟨?_,rfl⟩;have q1':arr[i]? = some e:=by simpa using q1
         have hil:i<l.length:=(List.getElem?_eq_some_iff.1 q2).1;obtain⟨e',a1,a2,a3,a4⟩:=h3 i (by omega);rw[q1'] at a1;obtain rfl:=Option.some.inj a1;have:=(List.getElem?_eq_some_iff.1 q2).2;simp[mE,this] at a4;exact .im a4
       cases c with
       | false=>exact⟨_,by simp[execOp,ho,ex,g2,hrun],hrep.1⟩
       | true =>
        refine⟨.tuple #[((hit k (l.map (·.1)) arr.toList 0).map (·.2)).getD zv,.bool (hit k (l.map (·.1)) arr.toList 0).isSome],by simp[execOp,ho,ex,g2,hrun],?_⟩;refine Rep.tup (vs:=[_,_]) rfl (fun j h h' => ?_)
        match j with
        | 0=>exact hrep.1
        | 1=>show Rep _ _ _ (.im (.sc (.bool (mget l k).isSome))) (.bool _);rw[hrep.2];exact .im (.sc _)
        | j+2=>exact absurd h (by simp)
    ·simp at he
   ·simp at he
  ·simp at he
theorem valA_mk {w:World} {I:Nat→Prop} {κ:Nat→Option KI} {x:AVal} {v:Value} (h:valA x=some v):Rep w I κ x v:=by
 unfold valA at h;split at h
 ·obtain rfl:=Option.some.inj h;exact .im (.sc _)
 ·rename_i cells
  cases e:Z6e cells with
  | none=>rw[e] at h;simp at h
  | some vs =>
   rw[e] at h;simp at h;rw[← h];obtain rfl:=Z7s e;exact .agg (by simp) (fun j h h'=>by rw[List.getElem_map];exact .im (.sc _))
 ·simp at h
theorem iter_at {w:World} {I:Nat→Prop} {κ:Nat→Option KI} {k:Nat} {m:Option Nat} {n:Nat} {sn:List Nat} (h:OAt w I κ k (.iter m n sn)):∃ ki bm,κ k=some ki∧w.heap[ki.b]? = some (.mapIter (some bm) n sn.toArray n) ∧
  ∀ m',m=some m'→∃ km,κ m'=some km∧km.b=bm:=by
 unfold OAt at h;cases e:κ k with
 | none=>rw[e] at h;obtain⟨_,_,h⟩:=h;simp at h
 | some ki=>rw[e] at h;obtain⟨bm,h1,h2⟩:=h;exact⟨ki,bm,rfl,h1,h2⟩
theorem ptr00 {w:World} {I:Nat→Prop} {κ:Nat→Option KI} {k:Nat} {ki:KI} {v:Value} (h:Rep w I κ (.ptr k 0 0) v) (e:κ k=some ki):v = .pointer (some ⟨ki.b,0,none⟩):=by
 cases h with
 | ptr e'=>rw[e] at e';obtain rfl:=Option.some.inj e';simp
def xRng (k n:Nat):Ext where
 f P o s:=match o.op with
  | .range t x=>match P.underlying t,s.eval x with
   | some (.map _ _),.mown m=>match s.obj m with
    | some (.map es)=>some ⟨[m],[k],.ptr k 0 0,[(k,some (.iter (some m) n []))],[n=es.length]⟩
    | _=>none
   | _,_=>none
  | _=>none
 ok P o s e he hp:=by
  split at he
  ·rename_i t x ho
   split at he
   ·rename_i kt et m ht hx
    split at he
    ·rename_i es hm
     obtain rfl:=Option.some.inj he;obtain⟨rfl,_⟩:=hp;refine .of fun Γ κ I s2 a w hP hr hn hf => ?_;have hfk:=hf k (by simp[mkSp]);have g1:=opd hr hn x (by simp[ho,Op.operands]) hx;have hm2:=(Z1h hn m (by simp)).trans hm;obtain⟨km,eκ,ex⟩:=Z61 g1;obtain⟨ki',arr,eκ',h1,h2,h3⟩:=Zak (hr.inv.objs m _ hm2);rw[eκ] at eκ';obtain rfl:=Option.some.inj eκ';have hmk:m≠k:=fun e=>by rw[e,hfk.2.2.1] at hm2;simp at hm2
     let ki:KI:=⟨w.heap.size,0,0,0⟩
     have hO:ORep (World.alloc' w (.mapIter (some km.b) es.length #[] es.length)) I (setK κ k (some ki)) ki (.iter (some m) es.length []) :=
      ⟨km.b,Z4b _ _,fun m' e=>by obtain rfl:=Option.some.inj e;exact⟨km,(Z6d _ _ _ hmk).trans eκ,rfl⟩⟩
     obtain⟨f1,f2,f3⟩:=hr.inv.alloc hfk (ki:=ki) rfl hO;refine⟨.pointer (some ⟨w.heap.size,0,none⟩),_,World.alloc' w (.mapIter (some km.b) es.length #[] es.length),_,I,.inl rfl,?_,f1,fun _ h=>h,f2,f3,?_⟩
     ·simp[execOp,ho,ex,Instr.range,Zx ht,Z6t h1,newObj,Sem.run,World.alloc']
     ·have:=Rep.ptr (w:=World.alloc' w (.mapIter (some km.b) es.length #[] es.length)) (I:=I) (κ:=setK κ k (some ki)) (k:=k) (e:=0) (j:=0) (ki:=ki) (Z1n       ..)
      show Rep _ _ _ (.ptr k 0 0) _;simpa[ki] using this
    ·simp at he
   ·simp at he
  ·simp at he
theorem born_nodup {arr:Array MapEntry} (h:∀ (i:Nat) (e:MapEntry),arr[i]? = some e→e.born=i):(arr.toList.map (·.born)).Nodup:=by
 have:arr.toList.map (·.born)=List.range arr.size:=by
  apply List.ext_getElem (by simp);intro i h1 h2;simp only[List.length_map,Array.length_toList] at h1;have:=h i arr[i] (Array.getElem?_eq_getElem h1);simp[this]
 rw[this];exact List.nodup_range
def xEnt {K V:Type} (vk:K→Value) (iv:V→Im) (l:List (K×V)) (i:Nat) (p:K×V) (ka:AVal):Ext where
 f P o s:=match o.op with
  | .entry x=>match s.eval x with
   | .ptr k 0 0=>match s.obj k with
    | some (.iter (some m) n sn)=>match s.obj m with
     | some (.map es)=>some ⟨[k,m],[],.tup [ka,.im (iv p.2)],[],[n=es.length,sn.getLast? = some i,es=mE vk iv l,l[i]? = some p,valA ka=some (vk p.1)]⟩
     | _=>none
    | _=>none
   | _=>none
  | _=>none
 ok P o s e he hp:=by
  split at he
  ·rename_i x ho
   split at he
   ·rename_i k hx
    split at he
    ·rename_i m n sn hk
     split at he
     ·rename_i es hm
      obtain rfl:=Option.some.inj he;obtain⟨rfl,hl,rfl,hp',hka,_⟩:=hp;refine .quiet rfl fun Γ κ I s2 a w hP hr hn => ?_;have g1:=opd hr hn x (by simp[ho,Op.operands]) hx;have hm2:=(Z1h hn m (by simp)).trans hm;have hk2:=(Z1h hn k (by simp)).trans hk;obtain⟨km,arr,eκ,h1,h2,h3⟩:=Zak (hr.inv.objs m _ hm2);obtain⟨ki,bm,eκ2,q1,q2⟩:=iter_at (hr.inv.objs k _ hk2);obtain⟨km',e',rfl⟩:=q2 m rfl;rw[eκ] at e';obtain rfl:=Option.some.inj e';have ex:=ptr00 g1 eκ2;obtain⟨hi,rfl⟩:=List.getElem?_eq_some_iff.1 hp';have hlen:(mE vk iv l).length=l.length:=by simp[mE]
      obtain⟨e,a1,a2,a3,a4⟩:=h3 i (by omega);have hnd:=born_nodup (arr:=arr) (fun j e' he'=>by
       have hj:j<arr.size:=(Array.getElem?_eq_some_iff.1 he').1;obtain⟨e2,b1,b2,_⟩:=h3 j (by omega);rw[he'] at b1;obtain rfl:=Option.some.inj b1;exact b2)
      have hsn:sn.toArray=sn.dropLast.toArray.push e.born:=by
       rw[a2];obtain⟨hne,hlast⟩:=List.getLast?_eq_some_iff.1 hl;subst hlast;simp
      rw[hsn] at q1;have he:e∈arr.toList:=by
       have:=Array.mem_of_getElem? a1;simpa using this
      have hrun:=run_entry_at (P:=P) w ki.b km.b (mE vk iv l).length sn.dropLast.toArray arr (mE vk iv l).length e q1 h1 he hnd;refine⟨.tuple #[e.key,e.val],by simp[execOp,ho,ex,hrun],?_⟩;simp only[mE,List.getElem_map] at a3 a4;refine Rep.tup (vs:=[_,_]) rfl (fun j h h' => ?_)
      match j with
      | 0=>show Rep _ _ _ ka e.key;rw[a3];exact valA_mk hka
      | 1=>exact .im a4
      | j+2=>exact absurd h (by simp)
     ·simp at he
    ·simp at he
   ·simp at he
  ·simp at he
def remI (n:Nat) (sn:List Nat):List Nat:=(List.range n).filter fun i => !sn.contains i
theorem remI_push {n:Nat} {sn:List Nat} {i:Nat} (hi:i∈remI n sn):∃ A B,remI n sn=A++i::B∧remI n (sn++[i])=A++B:=by
 obtain⟨h1,h2⟩:=List.mem_filter.1 hi;have hin:i<n:=by simpa using h1
 have:=Zas (l:=List.range n) (f:=fun j => !sn.contains j) (g:=fun j => !(sn++[i]).contains j) (i:=i) (by simpa using hin) (by simpa using h2) (by simp) (fun j hj hne=>by simp[hne]);simp only[List.getElem_range] at this;exact⟨_,_,this.1,this.2⟩
theorem Sat.drew {Γ:Ctx} {s:Z6} {a:Act} {w:World} (hs:Sat Γ s a w):Sat Γ s a w.drew:=by
 obtain⟨κ,I,hr⟩:=hs;have hk:Z8g Γ.M0 Γ.w0 w.drew:=⟨hr.inv.keep.os,hr.inv.keep.tape,hr.inv.keep.output,hr.inv.keep.size,hr.inv.keep.block⟩
 refine⟨κ,I,hr.size,hr.defers,fun x=>(hr.slots x).mono (fun _ h=>h) (fun _ _=>rfl) (fun _ _=>rfl),?_,hr.inv.inj,hr.inv.disj,hr.inv.bound,hk,hr.inv.ikeep,hr.inv.fromI,hr.inv.fromO,hr.inv.fix⟩;intro k o hko;have:=hr.inv.objs k o hko;unfold OAt at this ⊢;split
 ·rename_i e;rw[e] at this;exact this
 ·rename_i ki e;rw[e] at this;exact this.mono (fun _ h=>h) (fun _ _=>rfl) rfl (fun _ _=>rfl)
theorem Sat.putv {Γ:Ctx} {s:Z6} {a:Act} {w:World} {κ:Nat→Option KI} {I:Nat→Prop} (hr:Rel Γ κ I s a w) (d:Nat) (hd:d<Γ.n) {x:AVal} {v:Value} (hx:Rep w I κ x v):Rel Γ κ I (s.put (some d) x) (a.put (some d) v) w:=by
 refine⟨by simpa[Act.put] using hr.size,hr.defers,fun y => ?_,hr.inv.eqv (fun k o hk=>by rw[Z6.obj_put] at hk;exact hk) rfl⟩;rw[Z6.get_put];by_cases e:d=y
 ·rw[if_pos e]
  have hsz:d<a.tmps.size:=by rw[hr.size];exact hd
  have:(a.put (some d) v).tmps.getD y undef=v:=by subst e;simp[Act.put,hsz]
  rw[this];exact hx
 ·rw[if_neg e]
  have:(a.put (some d) v).tmps.getD y undef=a.tmps.getD y undef:=by simp[Act.put,Array.getD_eq_getD_getElem?,Array.getElem?_setIfInBounds,e]
  rw[this];exact hr.slots y
theorem AWp.next {Γ:Ctx} {P:Program} {id:Nat} {o1 o2:Oper} {Q:Exit→Z6→Prop} {s:Z6} {x:Operand} (d1 d2 k m:Nat) {n:Nat} {sn:List Nat} {es:List (Value×Im)} (hP:Γ.P=P) (h1:o1.op = .next x false) (h2:o2.op = .extract (.tmp d1) 0) (g1:o1.guard=none) (g2:o2.guard=none) (e1:o1.dst=some d1) (e2:o2.dst=some d2) (l1:d1<Γ.n) (l2:d2<Γ.n) (hx:s.eval x = .ptr k 0 0) (hk:s.obj k=some (.iter (some m) n sn)) (hm:s.obj m=some (.map es)) (hn:n=es.length) (h0:remI n sn=[]→Q .normal ((s.put (some d1) .top).put (some d2) (.im (.sc (.bool false))))) (hi:∀ i A B,remI n sn=A++i::B→remI n (sn++[i])=A++B→i<n→Q .normal (((s.objput [(k,some (.iter (some m) n (sn++[i])))]).put (some d1) .top).put (some d2) (.im (.sc (.bool true))))) :
  AWp Γ (.region id #[o1,o2] false) Q s:=by
 subst hP;intro a w hs;refine wp_region_lit ?_;refine wpList_plain g1 fun K hK => ?_;obtain⟨κ,I,hr⟩:=hs;obtain⟨km,arr,eκ,q1,q2,q3⟩:=Zak (hr.inv.objs m _ hm);obtain⟨ki,bm,eκ2,r1,r2⟩:=iter_at (hr.inv.objs k _ hk);obtain⟨km',e',rfl⟩:=r2 m rfl;rw[eκ] at e';obtain rfl:=Option.some.inj e';have hrx:=hr.eval x;rw[hx] at hrx;have ex:=ptr00 hrx eκ2;have hborn:∀ e∈arr.toList,∃ i,arr[i]? = some e∧e.born=i∧i<n:=by
  intro e he;obtain⟨i,hi,rfl⟩:=List.mem_iff_getElem.1 he;simp only[Array.length_toList] at hi;obtain⟨e2,b1,b2,_⟩:=q3 i (by omega);have:arr[i]? = some arr[i]:=Array.getElem?_eq_getElem hi;rw[this] at b1;obtain rfl:=Option.some.inj b1;exact⟨i,by simp,by simpa using b2,by omega⟩
 have step2:∀ (s1:Z6) (a1:Act) (w1:World) (b:Bool) (vs:List Value),Sat Γ s1 (a1.put (some d1) (.tuple ((.bool b)::vs).toArray)) w1→d1<a1.tmps.size→Q .normal (s1.put (some d2) (.im (.sc (.bool b)))) →
   wpList Γ.P #[o1,o2] (fun e a' w'=>∃ s',Sat Γ s' a' w'∧Q e s') [o2] (a1.put (some d1) (.tuple ((.bool b)::vs).toArray)) w1:=by
  intro s1 a1 w1 b vs hs1 hsz hq;refine wpList_plain g2 fun K hK => ?_;have hval:(a1.put (some d1) (.tuple ((.bool b)::vs).toArray)).eval (.tmp d1) = .tuple ((.bool b)::vs).toArray:=by simp[Act.put,Act.eval,hsz]
  have hgoal:=hK ((a1.put (some d1) (.tuple ((.bool b)::vs).toArray)).put o2.dst (.bool b)) w1 (by
   refine⟨_,?_,hq⟩;rw[e2];obtain⟨κ1,I1,hr1⟩:=hs1;exact⟨κ1,I1,Sat.putv hr1 d2 l2 (.im (.sc _))⟩)
  unfold Oper.wp;simp[execOp,h2,hval,Instr.extract,Result.andThen];exact hgoal
 have hmemI:∀ e,e∈(leftOf arr sn.toArray).toList↔∃ i,arr[i]? = some e∧e.born=i∧i∈remI n sn:=by
  intro e;constructor
  ·intro he
   have he':e∈arr∧e.born ∉ sn:=by simpa[leftOf] using he
   obtain⟨i,b1,b2,b3⟩:=hborn e (by simpa using he'.1);refine⟨i,b1,b2,List.mem_filter.2 ⟨by simpa using b3,?_⟩⟩;rw[b2] at he';simpa using he'.2
  ·rintro⟨i,b1,b2,b3⟩
   obtain⟨_,b4⟩:=List.mem_filter.1 b3;have:=Array.mem_of_getElem? b1;have hb4:i ∉ sn:=by simpa using b4
   simp[leftOf,this,b2,hb4]
 have hsz1:d1<a.tmps.size:=by rw[hr.size];exact l1
 rcases run_next_at (P:=Γ.P) w o1.type ki.b km.b n n sn.toArray arr es.length r1 q1 (fun e he=>by obtain⟨i,_,b2,b3⟩:=hborn e he;omega) (by omega) with ⟨c0,hrun⟩ | ⟨e,he,w1,hw1,hrun⟩
 ·have hrem:remI n sn=[]:=by
   refine List.eq_nil_iff_forall_not_mem.2 fun i hi' => ?_;have hin:i<n:=by have:=(List.mem_filter.1 hi').1;simpa using this
   obtain⟨e,b1,b2,_⟩:=q3 i (by omega);have:=(hmemI e).2 ⟨i,b1,b2,hi'⟩;have h00:(leftOf arr sn.toArray).toList=[]:=by rw[← List.length_eq_zero_iff];simpa using c0
   rw[h00] at this;simp at this
  have hg:=hK (a.put o1.dst (.tuple #[.bool false])) w (by
   rw[e1];exact step2 (s.put (some d1) .top) a w false [] ⟨κ,I,Sat.putv hr d1 l1 (.top _)⟩ hsz1 (h0 hrem))
  unfold Oper.wp;simp[execOp,h1,ex,hrun,Result.andThen];exact hg
 ·obtain⟨i,b1,b2,b3⟩:=(hmemI e).1 he
  obtain⟨A,B,p1,p2⟩:=remI_push b3;have hin:i<n:=by have:=(List.mem_filter.1 b3).1;simpa using this
  have hs1:∃ κ I,Rel Γ κ I s a w1∧κ k=some ki∧κ m=some km∧w1.heap=w.heap:=by
   rcases hw1 with rfl | rfl
   ·exact⟨κ,I,hr,eκ2,eκ,rfl⟩
   ·have hk':Z8g   Γ.M0 Γ.w0 w.drew:=⟨hr.inv.keep.os,hr.inv.keep.tape,hr.inv.keep.output,hr.inv.keep.size,hr.inv.keep.block⟩
    refine⟨κ,I,⟨hr.size,hr.defers,fun x=>(hr.slots x).mono (fun _ h=>h) (fun _ _=>rfl) (fun _ _=>rfl),⟨fun k o hko => ?_,hr.inv.inj,hr.inv.disj,hr.inv.bound,hk',hr.inv.ikeep,hr.inv.fromI,hr.inv.fromO,hr.inv.fix⟩⟩,eκ2,eκ,rfl⟩;have:=hr.inv.objs k o hko;unfold OAt at this ⊢;split
    ·rename_i e;rw[e] at this;exact this
    ·rename_i ki e;rw[e] at this;exact this.mono (fun _ h=>h) (fun _ _=>rfl) rfl (fun _ _=>rfl)
  obtain⟨κ1,I1,hr1,f1,f2,f3⟩:=hs1
  let ob:Obj:=.mapIter (some km.b) n (sn++[e.born]).toArray es.length
  have hb:ki.b<w1.heap.size:=by rw[f3];exact(Array.getElem?_eq_some_iff.1 r1).1
  have hO:ORep (World.setBlock w1 ki.b ob) I1 κ1 ki (.iter (some m) n (sn++[i])):=by
   refine⟨km.b,by rw[Z13 _ _ _ _ hb,if_pos rfl];simp[ob,b2,hn],fun m' e=>by obtain rfl:=Option.some.inj e;exact⟨km,f2,rfl⟩⟩
  obtain⟨u1,u2⟩:=hr1.inv.update hk f1 hO;have hr2:Rel Γ κ1 I1 (s.objput [(k,some (.iter (some m) n (sn++[i])))]) a (World.setBlock w1 ki.b ob) :=
   ⟨hr1.size,hr1.defers,fun y=>(hr1.slots y).mono (fun _ h=>h) u2 (fun _ _=>rfl),u1⟩
  have hg:=hK (a.put o1.dst (.tuple #[.bool true,e.key,e.val])) (World.setBlock w1 ki.b ob) (by
   rw[e1];exact step2 _ a _ true [e.key,e.val] ⟨κ1,I1,Sat.putv hr2 d1 l1 (.top _)⟩ hsz1 (hi i A B p1 p2 hin))
  unfold Oper.wp;simp[execOp,h1,ex,hrun,Result.andThen];exact hg
end Go.Pv
namespace Go.Pv
open Classical in
noncomputable def rchk {α S O:Type} (L:List α→S→Option O) (l:List α) (v:S):Option O:=if ∀ q,q.Perm l→L q v=L l v then L l v else none
theorem rchk_of {α S O:Type} {L:List α→S→Option O} {l:List α} {v:S} {o:O} (h:rchk L l v=some o):∀ q,q.Perm l→L q v=some o:=by
 unfold rchk at h;split at h
 ·rename_i hp;exact fun q hq=>(hp q hq).trans h
 ·simp at h
theorem rchk_eq {α S O:Type} {L:List α→S→Option O} {l:List α} {v:S} {o:O} (h:∀ q,q.Perm l→L q v=some o):rchk L l v=some o:=by
 unfold rchk;rw[if_pos (fun q hq=>(h q hq).trans (h l (.refl _)).symm),h l (.refl _)]
def Z5q {α:Type} (l:List α) (sn:List Nat):List α:=(remI l.length sn).filterMap fun i=>l[i]?
theorem picks_nil {α:Type} (l:List α):Z5q l []=l:=by
 unfold Z5q;have:remI l.length []=List.range l.length:=List.filter_eq_self.2 (by simp);rw[this];apply List.ext_getElem?;intro i;have:(List.range l.length).filterMap (fun i=>l[i]?)=l:=by
  have h:∀ n,n≤l.length→(List.range n).filterMap (fun i=>l[i]?)=l.take n:=by
   intro n
   induction n with
   | zero=>intro _;simp
   | succ n ih =>
    intro hn;rw[List.range_succ,List.filterMap_append,ih (by omega),List.take_add_one,List.getElem?_eq_getElem (by omega)];simp[List.getElem?_eq_getElem (show n<l.length by omega)]
  have:=h l.length (Nat.le_refl _);simpa using this
 rw[this]
abbrev vkI (q:IntKind) (a:Int):Value:=.int q a
theorem Zbg {K V:Type} (vk:K→Value) (iv:V→Im) (l:List (K×V)):l.length=(mE vk iv l).length:=by simp[mE]
structure Gh where
 B:List Nat
 G:World→(Nat→Prop)→Prop
 mono:∀ (w w':World) (I I':Nat→Prop),(∀ b∈B,w'.heap[b]? = w.heap[b]?)→(∀ b,I b→I' b)→(∀ b,I b→w'.heap[b]? = w.heap[b]?)→G w I→G w' I'
structure GInv (Γ:Ctx) (κ:Nat→Option KI) (I:Nat→Prop) (s:Z6) (g:Gh) (w:World):Prop where
 holds:g.G w I
 size:∀ b∈g.B,b<w.heap.size
 dis:∀ b∈g.B,¬ I b
 obj:∀ b∈g.B,∀ k o ki,s.obj k=some o→κ k=some ki→ki.b≠b
 new:∀ b∈g.B,Γ.M0 b∨Γ.w0.heap.size≤b
def GSat (Γ:Ctx) (s:Z6) (g:Gh) (a:Act) (w:World):Prop:=∃ κ I,Rel Γ κ I s a w∧GInv Γ κ I s g w
def GWp (Γ:Ctx) (c:Code) (Q:Exit→Z6→Gh→Prop) (s:Z6) (g:Gh):Prop :=
 ∀ a w,GSat Γ s g a w→c.wp Γ.P (fun e a' w'=>∃ s' g',GSat Γ s' g' a' w'∧Q e s' g') a w
def GCv (Γ:Ctx) (s:Z6) (g:Gh) (s':Z6) (g':Gh):Prop:=∀ a w,GSat Γ s g a w→GSat Γ s' g' a w
theorem GWp.mono {Γ:Ctx} {c:Code} {Q Q':Exit→Z6→Gh→Prop} {s:Z6} {g:Gh} (h:GWp Γ c Q s g) (hq:∀ e s g,Q e s g→Q' e s g):GWp Γ c Q' s g :=
 fun a w hs=>Code.wp_mono (fun e a w ⟨s',g',h1,h2⟩=>⟨s',g',h1,hq _ _ _ h2⟩) (h a w hs)
theorem GWp.cv {Γ:Ctx} {c:Code} {Q:Exit→Z6→Gh→Prop} {s s':Z6} {g g':Gh} (hc:GCv Γ s g s' g') (h:GWp Γ c Q s' g'):GWp Γ c Q s g:=fun a w hs=>h a w (hc a w hs)
theorem GWp.ex {Γ:Ctx} {c:Code} {Q:Exit→Z6→Gh→Prop} {s:Z6} {g:Gh} {α:Type} {S:α→Z6} {G:α→Gh} (hc:∀ a w,GSat Γ s g a w→∃ x,GSat Γ (S x) (G x) a w) (h:∀ x,GWp Γ c Q (S x) (G x)):GWp Γ c Q s g :=
 fun a w hs=>let ⟨x,hx⟩:=hc a w hs;h x a w hx
theorem GWp.skip {Γ:Ctx} {Q:Exit→Z6→Gh→Prop} {s:Z6} {g:Gh} (h:Q .normal s g):GWp Γ .skip Q s g:=fun a w hs=>wp_skip ⟨s,g,hs,h⟩
theorem GWp.exit {Γ:Ctx} {Q:Exit→Z6→Gh→Prop} {s:Z6} {g:Gh} {id:Nat} (h:Q (.exit id) s g):GWp Γ (.exit id) Q s g:=fun a w hs=>wp_exit ⟨s,g,hs,h⟩
theorem GWp.ret {Γ:Ctx} {Q:Exit→Z6→Gh→Prop} {s:Z6} {g:Gh} (h:Q .ret s g):GWp Γ .ret Q s g:=fun a w hs=>wp_ret ⟨s,g,hs,h⟩
def gseqQ (next:Z6→Gh→Prop) (Q:Exit→Z6→Gh→Prop):Exit→Z6→Gh→Prop
 | .normal,s,g=>next s g
 | e,s,g=>Q e s g
theorem GWp.seq {Γ:Ctx} {x y:Code} {Q:Exit→Z6→Gh→Prop} {s:Z6} {g:Gh} (h:GWp Γ x (gseqQ (GWp Γ y Q) Q) s g):GWp Γ (.seq x y) Q s g:=fun a w hs =>
 wp_seq (Code.wp_mono (fun e a w ⟨s',g',h1,h2⟩=>by
  cases e with
  | normal=>exact h2 a w h1
  | _=>exact⟨s',g',h1,h2⟩) (h a w hs))
def gblockQ (id:Nat) (Q:Exit→Z6→Gh→Prop):Exit→Z6→Gh→Prop
 | .exit i,s,g=>if i=id then Q .normal s g else Q (.exit i) s g
 | e,s,g=>Q e s g
theorem GWp.block {Γ:Ctx} {id:Nat} {c:Code} {Q:Exit→Z6→Gh→Prop} {s:Z6} {g:Gh} (h:GWp Γ c (gblockQ id Q) s g):GWp Γ (.block id c) Q s g:=fun a w hs =>
 wp_block (Code.wp_mono (fun e a w ⟨s',g',h1,h2⟩=>by
  cases e with
  | exit i=>simp only[Exit.inBlock];simp only[gblockQ] at h2;split<;>simp_all<;>exact⟨s',g',h1,h2⟩
  | _=>exact⟨s',g',h1,h2⟩) (h a w hs))
theorem GWp.cond {Γ:Ctx} {c:Operand} {x y:Code} {Q:Exit→Z6→Gh→Prop} {s:Z6} {g:Gh} (b:Bool) (hb:s.eval c = .im (.sc (.bool b))) (ht:b=true→GWp Γ x Q s g) (hf:b=false→GWp Γ y Q s g):GWp Γ (.cond c x y) Q s g:=fun a w hs=>by
 obtain⟨κ,I,hr,hg⟩:=hs;have hc:a.eval c = .bool b:=(hb ▸ hr.eval c).sc_inv;exact wp_cond_split hc (fun h=>ht h a w ⟨κ,I,hr,hg⟩) (fun h=>hf h a w ⟨κ,I,hr,hg⟩)
def GLWp (Γ:Ctx) (c:Code) (Q:Exit→Z6→Gh→Prop) (s:Z6) (g:Gh):Prop :=
 ∀ a w,GSat Γ s g a w→∀ (b:Frame) (k:List Go.Item) (cs:List Frame),
  ∃ e a' w',(∃ s' g',GSat Γ s' g' a' w'∧Q e s' g')∧Arrives Γ.P (lone (b.at a (.code c :: .inLoop c::k)) cs w) b k cs e a' w'
theorem GLWp.round {Γ:Ctx} {c:Code} {Q:Exit→Z6→Gh→Prop} {s:Z6} {g:Gh} (h:GWp Γ c (gseqQ (GLWp Γ c Q) Q) s g):GLWp Γ c Q s g:=by
 intro a w hs b k cs;obtain⟨e,a₁,w₁,⟨s',g',h1,h2⟩,harr⟩:=h a w hs b (.inLoop c::k) cs;cases e with
 | normal =>
  obtain⟨e₂,a₂,w₂,hq₂,harr₂⟩:=h2 a₁ w₁ h1 b k cs;exact⟨e₂,a₂,w₂,hq₂,.of_steps (Steps.trans harr (.one step_inLoop)) harr₂⟩
 | exit id=>exact⟨_,a₁,w₁,⟨s',g',h1,h2⟩,.pass (x:=.inLoop c) rfl (fun _ _=>.inl (by simp)) harr⟩
 | goto l=>exact⟨_,a₁,w₁,⟨s',g',h1,h2⟩,.pass (x:=.inLoop c) rfl (fun _ _=>.inl (by simp)) harr⟩
 | ret=>exact⟨_,a₁,w₁,⟨s',g',h1,h2⟩,.pass (x:=.inLoop c) rfl (fun _ _=>.inl (by simp)) harr⟩
 | panic ch=>exact⟨_,a₁,w₁,⟨s',g',h1,h2⟩,.pass (x:=.inLoop c) rfl (fun _ _=>.inl (by simp)) harr⟩
 | outgrown=>exact⟨_,a₁,w₁,⟨s',g',h1,h2⟩,.pass (x:=.inLoop c) rfl (fun _ _=>.inl (by simp)) harr⟩
theorem GWp.loop {Γ:Ctx} {c:Code} {Q:Exit→Z6→Gh→Prop} {s:Z6} {g:Gh} (h:GLWp Γ c Q s g):GWp Γ (.loop c) Q s g:=fun a w hs b k cs =>
 let ⟨e,a',w',hq,harr⟩:=h a w hs b k cs
 ⟨e,a',w',hq,.of_steps (.one step_loop) harr⟩
theorem GLWp.ex {Γ:Ctx} {c:Code} {Q:Exit→Z6→Gh→Prop} {s:Z6} {g:Gh} {α:Type} {S:α→Z6} {G:α→Gh} (hc:∀ a w,GSat Γ s g a w→∃ x,GSat Γ (S x) (G x) a w) (h:∀ x,GLWp Γ c Q (S x) (G x)):GLWp Γ c Q s g :=
 fun a w hs=>let ⟨x,hx⟩:=hc a w hs;h x a w hx
theorem ORep.lt {w:World} {I:Nat→Prop} {κ:Nat→Option KI} {ki:KI} {o:MObj} (h:ORep w I κ ki o):ki.b<w.heap.size:=by
 have key:∀ x,w.heap[ki.b]? = some x→ki.b<w.heap.size:=fun x e=>(Array.getElem?_eq_some_iff.1 e).1
 cases o with
 | row sz el es=>obtain⟨_,_,_,arr,h3,_⟩:=h;exact key _ h3
 | box el cells=>obtain⟨_,_,arr,h3,_⟩:=h;exact key _ h3
 | map es=>obtain⟨arr,h1,_⟩:=h;exact key _ h1
 | iter m n sn=>obtain⟨bm,h1,_⟩:=h;exact key _ h1
 | arow sz el es fs=>obtain⟨_,_,_,arr,h3,_⟩:=h;exact key _ h3
 | amap ks xs=>obtain⟨_,arr,h3,_⟩:=h;exact key _ h3
 | dmap es=>obtain⟨arr,h1,_⟩:=h;exact key _ h1
theorem GWp.frame {Γ:Ctx} {c:Code} {Q:Exit→Z6→Gh→Prop} {s:Z6} {g:Gh} (h:∀ Γ':Ctx,Γ'.P=Γ.P→Γ'.n=Γ.n→AWp Γ' c (fun e s'=>s'.floor=s.floor∧Q e s' g) s):GWp Γ c Q s g:=by
 rintro a w ⟨κ,I,hr,hg⟩;have hdis:∀ b,I b→¬ Z4s κ s b:=fun b hb ⟨k,o,ki,h1,h2,h3⟩=>hr.inv.disj k o ki h1 h2 (h3 ▸ hb)
 have glob:Zb2 Γ.P I (Z4s κ s) w:=fun x cs e=>by
  obtain⟨h1,h2,h3⟩:=hr.inv.tab e;exact⟨h1,hdis x h1,h2,h3⟩
 let Γ':Ctx := { P:=Γ.P,n:=Γ.n,w0:=w,I0:=I,M0:=Z4s κ s,κ0:=κ,glob:=glob }
 have sat:Sat Γ' s a w:=⟨κ,I,hr.size,hr.defers,hr.slots,hr.inv.objs,hr.inv.inj,hr.inv.disj,hr.inv.bound,Z8g.refl _ _,fun _ h=>h,fun b h=>.inl h,fun k o ki h1 h2=>.inl ⟨k,o,ki,h1,h2,rfl⟩,fun k hk=>rfl⟩
 refine Code.wp_mono (fun e a' w' ⟨s',h1,hfl,h2⟩ => ?_) (h Γ' rfl rfl a w sat);obtain⟨κ',I',r'⟩:=h1;have hsz:w.heap.size≤w'.heap.size:=r'.inv.keep.size;have fromM:∀ b,Z4s κ s b→Γ.M0 b∨Γ.w0.heap.size≤b:=fun b ⟨k,o,ki,h1,h2,h3⟩=>h3 ▸ hr.inv.fromO k o ki h1 h2
 have old:∀ b,b<w.heap.size→¬ Z4s κ s b→w'.heap[b]? = w.heap[b]? := fun b hb hn=>r'.inv.keep.block b hb hn
 have gnot:∀ b∈g.B,¬ Z4s κ s b:=fun b hb ⟨k,o,ki,h1,h2,h3⟩=>hg.obj b hb k o ki h1 h2 h3
 refine⟨s',g,⟨κ',I',⟨r'.size,r'.defers,r'.slots,r'.inv.objs,r'.inv.inj,r'.inv.disj,r'.inv.bound,?_,?_,?_,?_,?_⟩,?_,?_,?_,?_,hg.new⟩,h2⟩
 ·refine hr.inv.keep.trans r'.inv.keep (fun b hb hm => ?_)
  rcases fromM b hm with h | h
  ·exact h
  ·omega
 ·exact fun b hb=>r'.inv.ikeep b (hr.inv.ikeep b hb)
 ·intro b hb
  rcases r'.inv.fromI b hb with h | h | h
  ·exact hr.inv.fromI b h
  ·exact .inr (fromM b h)
  ·exact .inr (.inr (Nat.le_trans hr.inv.keep.size h))
 ·intro k o ki h1 h2
  rcases r'.inv.fromO k o ki h1 h2 with h | h
  ·exact fromM _ h
  ·exact .inr (Nat.le_trans hr.inv.keep.size h)
 ·intro k hk
  exact(r'.inv.fix k hk).trans (hr.inv.fix k (hfl ▸ hk))
 ·exact g.mono w w' I I' (fun b hb=>old b (hg.size b hb) (gnot b hb)) (fun b hb=>r'.inv.ikeep b hb) (fun b hb=>old b (hr.inv.bound b hb) (hdis b hb)) hg.holds
 ·exact fun b hb=>Nat.lt_of_lt_of_le (hg.size b hb) hsz
 ·intro b hb hI
  rcases r'.inv.fromI b hI with h | h | h
  ·exact hg.dis b hb h
  ·exact gnot b hb h
  ·exact absurd (hg.size b hb) (Nat.not_lt.2 h)
 ·intro b hb k o ki h1 h2 e
  rcases r'.inv.fromO k o ki h1 h2 with h | h
  ·exact gnot b hb (e ▸ h)
  ·have:=hg.size b hb;rw[e] at h;exact absurd this (Nat.not_lt.2 h)
end Go.Pv
open Go.RowKit
namespace Go.Pv
def noTabs (P:Program):Bool:=P.globals.toList.all fun x=>(tabNamed x.name).isNone
theorem noTabs_ok {P:Program} (h:noTabs P=true) (g:Nat):Zap P g=none:=by
 unfold Zap;split
 ·rename_i x hx
  have:=List.all_eq_true.1 h x (by rw[← Array.getElem?_toList] at hx;exact List.mem_of_getElem? hx);simpa using this
 ·rfl
def TabsAt (P:Program) (w:World):Prop:=∀ g cs,Zap P g=some cs→g<w.heap.size∧∃ t m,w.heap[g]? = some (.cells cs.toArray t m)
theorem Fn.lawG {P:Program} {f:FuncId} {args:List AVal} {vs:List Value} {w:World} (h:Fn P f args [] 0 (fun x o=>x=bV true∧o=[])) (hl:vs.length=args.length) (hreps:∀ j (h:j<args.length) (h':j<vs.length),Rep w (fun b=>b<w.heap.size) (fun _=>none) (args[j]) (vs[j])) (ht:TabsAt P w) :
  Calls P f vs.toArray w fun e w'=>e = .returned (.bool true)∧Below w.heap.size w w':=by
 have hg:Zb2 P (fun b=>b<w.heap.size) (Z4s (fun _=>none) ⟨[],[],0⟩) w:=fun g cs e=>⟨(ht g cs e).1,(fun⟨k,o,ki,h1,_⟩=>by simp[Z6.obj,look] at h1),ht g cs e⟩
 have hinv:Inv (Z70 P 0 (fun _=>none) (fun b=>b<w.heap.size) ⟨[],[],0⟩ w hg) (fun _=>none) (fun b=>b<w.heap.size) ⟨[],[],0⟩ w:=by
  refine⟨?_,?_,?_,fun b h=>h,Z8g.refl _ _,fun _ h=>h,fun b h=>.inl h,?_,fun _ _=>rfl⟩
  ·intro k o h;simp[Z6.obj,look] at h
  ·intro k k' o o' ki ki' h;simp[Z6.obj,look] at h
  ·intro k o ki h;simp[Z6.obj,look] at h
  ·intro k o ki h;simp[Z6.obj,look] at h
 refine(h (fun _=>none) (fun b=>b<w.heap.size) w vs hl hreps hg hinv).mono ?_;rintro e w' ⟨v,r,o,κ',I',rfl,⟨rfl,rfl⟩,hr,hi⟩;refine⟨by rw[hr.sc_inv],?_⟩;have hM:∀ b,b<w.heap.size→w'.heap[b]? = w.heap[b]? := fun b hb=>hi.keep.block b hb (fun hm=>by
  obtain⟨k,o,ki,h1,_⟩:=hm;simp[Z6.obj,look] at h1)
 exact⟨hi.keep.os,hi.keep.tape,hi.keep.output,hi.keep.size,hM⟩
theorem Fn.law {P:Program} {f:FuncId} {args:List AVal} {vs:List Value} {w:World} (h:Fn P f args [] 0 (fun x o=>x=bV true∧o=[])) (hl:vs.length=args.length) (hreps:∀ j (h:j<args.length) (h':j<vs.length),Rep w (fun b=>b<w.heap.size) (fun _=>none) (args[j]) (vs[j])) (hn:noTabs P=true:=by kernel_rfl) :
  Calls P f vs.toArray w fun e w'=>e = .returned (.bool true)∧Below w.heap.size w w' :=
 h.lawG hl hreps (fun g cs e=>by rw[noTabs_ok hn g] at e;cases e)
theorem chkT {p:Prop} [Decidable p] (h:p):chk p=some ():=by simp[chk,h]
theorem sb {α β:Type} (a:α) (f:α→Option β):(some a>>=f)=f a:=rfl
theorem chkB {p:Prop} [Decidable p] {α:Type} {f:Unit→Option α} (h:p):(chk p>>=f)=f ():=by rw[chkT h];rfl
theorem Z0b {n:Int} (h0 : -9223372036854775808≤n) (h1:n<9223372036854775808):IntKind.i64.wrap n=n:=by
 simp only[IntKind.wrap,IntKind.signed,IntKind.bits];simp;omega
abbrev L (s:ByteArray):List UInt8:=s.data.toList
theorem Z6r (s:ByteArray):s.toList=L s:=ByteArray.toList_eq ..
theorem Z44 (s:ByteArray):(L s).length=s.size:=by simp[L]
theorem bt_L {s:ByteArray} {i:Nat} {c:UInt8} (h:(L s)[i]? = some c):bt s (i:Int)=(c.toNat:Int):=by
 have:s.data[i]? = some c:=by rw[← h];simp[L]
 simp[bt,this]
theorem ext_L {a b:ByteArray} (h:L a=L b):a=b:=by
 obtain⟨⟨a⟩⟩:=a;obtain⟨⟨b⟩⟩:=b;simp[L] at h;rw[h]
theorem Z8f (s:ByteArray) (i j:Nat):L (s.extract i j)=((L s).drop i).take (j-i):=by
 simp only[L,ByteArray.data_extract,Array.toList_extract,List.extract_eq_take_drop]
end Go.Pv
