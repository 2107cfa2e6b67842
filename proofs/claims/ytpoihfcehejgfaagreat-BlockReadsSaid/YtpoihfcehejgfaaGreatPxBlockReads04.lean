import Derived.Laws.MakeOwn
import Derived.Lib.MakeNoZero
import Derived.Maps.RangeRun
import Derived.Maps.RangeWalk
import Derived.Test.YtpoihfcehejgfaaGreatPxBlockReads03
set_option linter.unusedVariables false
set_option linter.unusedSimpArgs false
namespace Go.Pv
def xTake (k2:Nat) (es':List (List Im)):Ext where
 f P o s:=match o.op with
  | .slice t x none hi none=>match Z7k   P t,s.eval x with
   | some (e,sz),.own k=>match s.obj k with
    | some (.row sz' el es)=>match optN s hi es.length,Nat.beq sz' sz with
     | some u,true=>some ⟨[k],[k2],.own k2,[(k2,some (.row sz el es')),(k,none)],[0≤u,u≤(es.length:Int),es'=es.take u.toNat]⟩
     | _,_=>none
    | _=>none
   | _,_=>none
  | _=>none
 ok P o s e he hp:=by
  split at he
  ·rename_i t x hi ho
   split at he
   ·rename_i e' sz k hel hx
    split at he
    ·rename_i sz' el es hk
     split at he
     ·rename_i u hu hsz
      obtain rfl:=Nat.eq_of_beq_eq_true hsz;obtain rfl:=Option.some.inj he;obtain⟨p1,p2,rfl,_⟩:=hp;obtain⟨hun,ag,hag⟩:=Z4h hel;refine .of fun Γ κ I s2 a w hP hrel hn hf => ?_;have hfk:=hf k2 (by simp[mkSp]);obtain⟨m1,m2,m3⟩:=Zb6 (s:=s) ho;have g1:=opd hrel hn x m1 hx;have q1:optV ((none:Option Operand).map a.eval) 0 0:=Z6l hrel hn m2 (show optA s none 0 0 from rfl);have q2:=Z6l hrel hn m3 (Zcb hu);have hk2:=(Z1r hn k (by simp)).trans hk;have hO:=hrel.inv.objs k _ hk2;generalize ha:a.eval x=v at g1;cases g1 with
      | own0 base eκ =>
       simp only[OAt,eκ] at hO;obtain⟨_,_,e⟩:=hO;simp at e;obtain⟨rfl,rfl,rfl⟩:=e;simp only[List.length_nil] at p2;have hb:=Z37 (P:=P) (isSlice:=true) (len:=0) (cap:=0) q1 q2 (Int.le_refl 0) p1 (by omega) w;have e2:u.toNat=0:=by omega
       have hkill:=hrel.inv.kill [(k,none)] (by intro p hp;simp at hp;subst hp;rfl);have hfk':(s2.objput [(k,none)]).fresh k2:=Zbw hfk (by intro p hp;simp at hp;subst hp;rfl);obtain⟨i1,i2⟩:=hkill.emptyRow (sz:=sz') (el:=el) hfk';refine⟨.slice base 0 0,_,w,setK κ k2 none,I,.inl rfl,?_,?_,fun _ h=>h,fun _ _=>rfl,fun x k' hk'=>i2 x k' hk',?_⟩
       ·rw[Option.map_none,e2] at hb
        simp only[Int.toNat_zero] at hb;simp[execOp,ho,ha,Instr.sliceAt,Zi hun,Instr.slice,hb,Z1b hag,e2]
        try cases base<;>simp[Addr.add]
       ·rw[e2];exact i1
       ·exact .own0 base (Z1u ..)
      | @own _ ki eκ =>
       simp only[OAt,eκ] at hO;have hO':=hO;obtain⟨h1,h2,h3,arr,h4,h5,h6⟩:=hO;have hb:=Z37 (P:=P) (isSlice:=true) (len:=ki.len) (cap:=ki.cap) q1 (by rw[h2];exact q2) (Int.le_refl 0) p1 (by omega) w
       let ki':KI:=⟨ki.b,ki.cap,sz',u.toNat⟩
       have hO2:ORep (World.setBlock w ki.b (.cells arr el (0,0))) I (setK κ k2 (some ki')) ki' (.row sz' el (es.take u.toNat)):=by
        rw[Z8f h4];refine⟨rfl,by simp[ki'];omega,by simp[ki'];omega,arr,h4,h5,fun i hi => ?_⟩;simp only[List.length_take] at hi;rw[List.getElem_take];exact h6 i (by omega)
       obtain⟨i1,i2,i3⟩:=hrel.inv.move hk2 eκ hfk (ki':=ki') rfl hO2;rw[Z8f h4] at i1 i2;refine⟨.slice (some ⟨ki.b,0,none⟩) u.toNat ki.cap,_,w,setK κ k2 (some ki'),I,.inl rfl,?_,i1,fun _ h=>h,fun _ _=>rfl,i3,?_⟩
       ·rw[Option.map_none] at hb
        simp only[Int.toNat_zero] at hb;simp[execOp,ho,ha,Instr.sliceAt,Zi hun,Instr.slice,hb,Z1b hag]
        try simp[Addr.add]
       ·exact Rep.own (ki:=ki') (Z1u ..)
     ·simp at he
    ·simp at he
   ·simp at he
  ·simp at he
def xCutOwn (lo' n:Nat):Ext where
 f P o s:=match o.op with
  | .slice t x lo none none=>match Z7k   P t,s.eval x with
   | some (e,sz),.own k=>match s.obj k with
    | some (.row sz' el es)=>match optN s lo 0,Nat.beq sz' sz with
     | some l,true=>some ⟨[k],[],.cut k lo' n,[],[l=(lo':Int),lo'+n=es.length]⟩
     | _,_=>none
    | _=>none
   | _,_=>none
  | _=>none
 ok P o s e he hp:=by
  split at he
  ·rename_i t x lo ho
   split at he
   ·rename_i e' sz k hel hx
    split at he
    ·rename_i sz' el es hk
     split at he
     ·rename_i l hl hsz
      obtain rfl:=Nat.eq_of_beq_eq_true hsz;obtain rfl:=Option.some.inj he;obtain⟨rfl,p2,_⟩:=hp;obtain⟨hun,ag,hag⟩:=Z4h hel;refine .quiet rfl fun Γ κ I s2 a w hP hrel hn => ?_;obtain⟨m1,m2,m3⟩:=Zb6 (s:=s) ho;have g1:=opd hrel hn x m1 hx;have q1:=Z6l hrel hn m2 (Zcb hl);have q2:optV ((none:Option Operand).map a.eval) (es.length:Int) es.length:=Z6l hrel hn m3 (show optA s none (es.length:Int) es.length from rfl);have hO:=hrel.inv.objs k _ ((Z1r hn k (by simp)).trans hk);generalize ha:a.eval x=v at g1;cases g1 with
      | own0 base eκ =>
       simp only[OAt,eκ] at hO;obtain⟨_,_,e⟩:=hO;simp at e;obtain⟨rfl,rfl,rfl⟩:=e;simp only[List.length_nil] at p2 q2;obtain rfl:lo'=0:=by omega
       obtain rfl:n=0:=by omega
       have hb:=Z37 (P:=P) (isSlice:=true) (len:=0) (cap:=0) q1 q2 (by simp) (by simp) (by simp) w;refine⟨.slice base 0 0,?_,.cut0 base eκ⟩;rw[Option.map_none] at hb;simp at hb;simp[execOp,ho,ha,Instr.sliceAt,Zi hun,Instr.slice,hb,Z1b hag]
       try (cases base<;>simp)
      | @own _ ki eκ =>
       simp only[OAt,eκ] at hO;obtain⟨h1,h2,h3,arr,h4,h5,h6⟩:=hO;have hb:=Z37 (P:=P) (isSlice:=true) (len:=ki.len) (cap:=ki.cap) q1 (by rw[h2];exact q2) (by omega) (by omega) (by omega) w;have hn':es.length-lo'=n:=by omega
       rw[Option.map_none] at hb;simp only[Int.toNat_natCast] at hb;by_cases hc:ki.cap=lo'
       ·refine⟨.slice (some ⟨ki.b,0,none⟩) n (ki.cap-lo'),?_,.cut (off:=0) eκ (.inr hc.symm) (by omega)⟩
        rw[hc] at hb;simp[execOp,ho,ha,Instr.sliceAt,Zi hun,Instr.slice,hb,Z1b hag,hc,hn']
       ·refine⟨.slice (some ⟨ki.b,lo'*sz',none⟩) n (ki.cap-lo'),?_,.cut (off:=lo'*sz') eκ (.inl (by rw[h1])) (by omega)⟩
        simp[execOp,ho,ha,Instr.sliceAt,Zi hun,Instr.slice,hb,Z1b hag,hc,hn',Z5o]
     ·simp at he
    ·simp at he
   ·simp at he
  ·simp at he
def xSub (lo' n:Nat):Ext where
 f P o s:=match o.op with
  | .slice t x lo hi none=>match Z7k   P t,s.eval x with
   | some (e,sz),.own k=>match s.obj k with
    | some (.row sz' el es)=>match optN s lo 0,optN s hi es.length,Nat.beq sz' sz with
     | some l,some u,true=>some ⟨[k],[],.sub k lo' n,[],[l=(lo':Int),u=((lo'+n:Nat):Int),lo'+n≤es.length]⟩
     | _,_,_=>none
    | _=>none
   | _,_=>none
  | _=>none
 ok P o s e he hp:=by
  split at he
  ·rename_i t x lo hi ho
   split at he
   ·rename_i e' sz k hel hx
    split at he
    ·rename_i sz' el es hk
     split at he
     ·rename_i l u hl hu hsz
      obtain rfl:=Nat.eq_of_beq_eq_true hsz;obtain rfl:=Option.some.inj he;obtain⟨rfl,rfl,p2,_⟩:=hp;obtain⟨hun,ag,hag⟩:=Z4h hel;refine .quiet rfl fun Γ κ I s2 a w hP hrel hn => ?_;obtain⟨m1,m2,m3⟩:=Zb6 (s:=s) ho;have g1:=opd hrel hn x m1 hx;have q1:=Z6l hrel hn m2 (Zcb hl);have q2:=Z6l hrel hn m3 (Zcb hu);have hO:=hrel.inv.objs k _ ((Z1r hn k (by simp)).trans hk);generalize ha:a.eval x=v at g1;cases g1 with
      | own0 base eκ =>
       simp only[OAt,eκ] at hO;obtain⟨_,_,e⟩:=hO;simp at e;obtain⟨rfl,rfl,rfl⟩:=e;simp only[List.length_nil] at p2 q2;obtain rfl:lo'=0:=by omega
       obtain rfl:n=0:=by omega
       have hb:=Z37 (P:=P) (isSlice:=true) (len:=0) (cap:=0) q1 q2 (by simp) (by simp) (by simp) w;refine⟨.slice base 0 0,?_,.sub0 base eκ⟩;simp at hb;simp[execOp,ho,ha,Instr.sliceAt,Zi hun,Instr.slice,hb,Z1b hag]
       try (cases base<;>simp)
      | @own _ ki eκ =>
       simp only[OAt,eκ] at hO;obtain⟨h1,h2,h3,arr,h4,h5,h6⟩:=hO;have hb:=Z37 (P:=P) (isSlice:=true) (len:=ki.len) (cap:=ki.cap) q1 (by rw[h2];exact q2) (by omega) (by omega) (by omega) w;have hn':lo'+n-lo'=n:=by omega
       simp only[Int.toNat_natCast] at hb;by_cases hc:ki.cap=lo'
       ·refine⟨.slice (some ⟨ki.b,0,none⟩) n (ki.cap-lo'),?_,.sub (off:=0) eκ (.inr hc.symm) (by omega) (by omega)⟩
        rw[hc] at hb;simp[execOp,ho,ha,Instr.sliceAt,Zi hun,Instr.slice,hb,Z1b hag,hc,hn']
       ·refine⟨.slice (some ⟨ki.b,lo'*sz',none⟩) n (ki.cap-lo'),?_,.sub (off:=lo'*sz') eκ (.inl (by rw[h1])) (by omega) (by omega)⟩
        simp[execOp,ho,ha,Instr.sliceAt,Zi hun,Instr.slice,hb,Z1b hag,hc,hn',Z5o]
     ·simp at he
    ·simp at he
   ·simp at he
  ·simp at he
def outSc (objs:List (Nat×Option MObj)):List (Nat×Nat)→Option (List Prop)
 | []=>some []
 | (kc,_)::r=>match (⟨[],objs,0⟩:Z1    ).obj kc,outSc objs r with
  | some (.row _ _ es),some l=>some ((∀ c∈es,∀ x∈c,∃ v,x=Im.sc v)::l)
  | none,some l=>some l
  | _,_=>none
theorem outSc_ok {objs:List (Nat×Option MObj)}:∀ {out:List (Nat×Nat)} {l:List Prop},outSc objs out=some l→AllP l→∀ kc k o,(kc,k)∈out→(⟨[],objs,0⟩:Z1).obj kc=some o→ScObj o:=by
 intro out
 induction out with
 | nil=>intro l _ _ kc k o hm;simp at hm
 | cons p r ih =>
  intro l h hp kc k o hm ho;obtain⟨kp,k'⟩:=p;simp only[outSc] at h;split at h
  ·rename_i sz el es l' e1 e2
   obtain rfl:=Option.some.inj h;simp only[AllP] at hp;rcases List.mem_cons.1 hm with hm | hm
   ·obtain⟨rfl,rfl⟩:=Prod.mk.inj hm
    rw[e1] at ho;obtain rfl:=Option.some.inj ho;exact⟨sz,el,es,rfl,hp.1⟩
   ·exact ih e2 hp.2 kc k o hm ho
  ·rename_i l' e1 e2
   obtain rfl:=Option.some.inj h;rcases List.mem_cons.1 hm with hm | hm
   ·obtain⟨rfl,rfl⟩:=Prod.mk.inj hm
    rw[e1] at ho;simp at ho
   ·exact ih e2 hp kc k o hm ho
  ·simp at h
def Z4n (inv out:List (Nat×Nat)) (vk news:List Nat) (floor:Nat) (r:AVal) (objs:List (Nat×Option MObj)):Ext where
 f P o s:=match o.op with
  | .call { callee:=.value fo,args:=as,argTypes:=ts }=>match funOf (s.eval fo) with
   | some (g,caps)=>match Zbe     s vk with
    | some views=>match Za4    inv out views news floor&&inv.all (fun p=>(s.obj p.1).isSome)&&Z68   r with
     | true=>match outSc objs out with
      | some l=>some ⟨inv.map (·.1)++views.map (·.1),news,pass out [] r,Z8j     ⟨[],objs,0⟩ out inv (views.map (·.1)) true,
       Enters P g::Fn P g ((as.toList.map s.eval++caps).map (fun x=>rowed (pass inv views x))) (Z99 s inv views) floor (fun r' o'=>r'=r∧o'=objs)::l⟩
      | none=>none
     | false=>none
    | none=>none
   | _=>none
  | _=>none
 ok P o s e he hp:=by
  split at he
  ·rename_i fo as ts ho
   split at he
   ·rename_i g caps hfo
    split at he
    ·rename_i views hv
     split at he
     ·rename_i hb
      split at he
      ·rename_i l hl
       simp only[Bool.and_eq_true] at hb;obtain⟨⟨b1,b2⟩,b3⟩:=hb;obtain rfl:=Option.some.inj he;simp only[AllP] at hp;exact ok_callG inv out views news floor rowed (fun _ _ _ _ _ h=>rowed_rep h) ho hfo hp.1 rfl (Zbd hv) b2 b1 hp.2.1 true (fun _=>⟨b3,outSc_ok hl hp.2.2⟩)
      ·simp at he
     ·simp at he
    ·simp at he
   ·simp at he
  ·simp at he
theorem Z4y {α:Type} (xs:List α) (f:α→List Im) (h:∀ y,∀ x∈f y,∃ v,x=Im.sc v):∀ c∈xs.map f,∀ x∈c,∃ v,x=Im.sc v:=by
 intro c hc;obtain⟨y,_,rfl⟩:=List.mem_map.1 hc;exact h y
theorem Zak {z:Array Value} {n i j:Nat} (hi:i<n) (hj:j<z.size):(Builtin.zeroCells z n).toList[i*z.size+j]? = z[j]? := by
 have hlt:i*z.size+j<n*z.size:=Z6c hi hj;have hm:(i*z.size+j) % z.size=j:=by rw[Nat.mul_comm,Nat.mul_add_mod,Nat.mod_eq_of_lt hj]
 simp only[Builtin.zeroCells,Array.toList_map,List.getElem?_map,Array.getElem?_toList];simp[hlt,hm,hj]
def xClear (es':List (List Im)):Ext where
 f P o s:=match o.op with
  | .call { callee:=.builtin .clear,args:=⟨[x]⟩,argTypes:=ts }=>match ts[0]? with
   | some t=>match Z7k   P t,s.eval x with
    | some (e,sz),.cut k lo n=>match s.obj k,Zcm   P e with
     | some (.row sz' el es),some z=>match toImL (Z0k      z) with
      | some zs=>match Nat.beq sz' sz&&Nat.beq zs.length sz&&Z1s    (Z0k      z)&&Nat.blt 0 sz with
       | true=>some ⟨[k],[],.top,[(k,some (.row sz' el es'))],[es'=es.take lo++List.replicate n zs,lo+n=es.length]⟩
       | false=>none
      | none=>none
     | _,_=>none
    | _,_=>none
   | none=>none
  | _=>none
 ok P o s e he hp:=by
  split at he
  ·rename_i x ts ho
   split at he
   ·rename_i t hts
    split at he
    ·rename_i el0 sz k lo n hel hx
     split at he
     ·rename_i sz' el es z hk hz
      split at he
      ·rename_i zs hzs
       split at he
       ·rename_i hb
        simp only[Bool.and_eq_true,Nat.blt_eq] at hb;obtain⟨⟨⟨b1,b2⟩,b3⟩,b4⟩:=hb;obtain rfl:=Nat.eq_of_beq_eq_true b1;have b2:=Nat.eq_of_beq_eq_true b2;obtain rfl:=Option.some.inj he;obtain⟨rfl,p2,_⟩:=hp;obtain⟨hun,ag,hag⟩:=Z4h hel;obtain⟨i0,zv,hinfo,hzero,hzc⟩:∃ i zv,P.info? el0=some i∧i.zero=some zv∧z=Za5 zv:=by
         unfold Zcm at hz;cases hi:P.info? el0 with
         | none=>rw[hi] at hz;simp at hz
         | some i =>
          cases hzz:i.zero with
          | none=>rw[hi] at hz;simp[hzz] at hz
          | some zv=>rw[hi] at hz;simp[hzz] at hz;exact⟨i,zv,rfl,hzz,hz.symm⟩
        subst hzc;obtain⟨t1,t2⟩:=Zap hzs;refine .of fun Γ κ I s2 a w hP hrel hn hf => ?_;have g1:=opd hrel hn x (by simp[ho,Op.operands,Call.operands]) hx;have hk2:=(Z1r hn k (by simp)).trans hk;have hO:=hrel.inv.objs k _ hk2;have same:es.take lo++List.replicate n zs=es→Inv Γ κ I (s2.objput [(k,some (.row sz' el (es.take lo++List.replicate n zs)))]) w:=by
         intro e;rw[e];refine hrel.inv.eqv (fun k' o' h => ?_) rfl;rw[Z1.obj_objput,Z1m] at h;by_cases ek:k=k'
         ·subst ek;rw[if_pos rfl] at h;simp at h;rw[← h];exact hk2
         ·rw[if_neg ek] at h;simpa[look] using h
        generalize ha:a.eval x=v at g1;cases g1 with
        | cut0 base eκ =>
         simp only[OAt,eκ] at hO;obtain⟨_,_,e⟩:=hO;simp at e;obtain⟨rfl,rfl,rfl⟩:=e;refine⟨.tuple #[],_,w,κ,I,.inl rfl,?_,same (by simp),fun _ h=>h,fun _ _=>rfl,fun _ _ _=>rfl,.top _⟩;simp only[execOp,ho,resolve,Deferred.ofValue,Sem.run_bind,Sem.run_pure,Result.andThen_ok,invoke,builtin];cases base<;>simp[ha,Builtin.clear_,hts,Zi hun]
        | @cut _ _ _ off ki eκ h1 h2 =>
         simp only[OAt,eκ] at hO;obtain⟨c1,c2,c3,arr,c4,c5,c6⟩:=hO;by_cases hn0:n=0
         ·subst hn0
          refine⟨.tuple #[],_,w,κ,I,.inl rfl,?_,same (by rw[List.take_of_length_le (by omega)];simp),fun _ h=>h,fun _ _=>rfl,fun _ _ _=>rfl,.top _⟩;simp[execOp,ho,resolve,invoke,builtin,ha,Builtin.clear_,hts,Zi hun]
         have hoff:off=lo*sz':=by
          rcases h1 with h1 | h1
          ·rw[h1,c1]
          ·exfalso;exact hn0 (by omega)
         subst hoff;obtain⟨v1,v2,v3⟩:=Z3u (Z76 w I κ zv) b3;have hzsz:zv.cells.size=sz':=by rw[v1,← t1,b2]
         let vs:=(Builtin.zeroCells zv.cells n).toList
         have hvl:vs.length=n*sz':=by simp[vs,Z9z,hzsz]
         have hleaf:∀ u∈vs,Zbt u=true:=by
          intro u hu;obtain⟨q,hq,rfl⟩:=List.mem_iff_getElem.1 hu;rw[hvl] at hq;have hm:q % sz'<sz':=Nat.mod_lt _ b4;have hd:q / sz'<n:=Nat.div_lt_of_lt_mul (by rw[Nat.mul_comm];exact hq);have hg:=Zak (z:=zv.cells) (n:=n) (i:=q / sz') (j:=q % sz') hd (by rw[hzsz];exact hm);rw[hzsz,Nat.div_add_mod' q sz'] at hg;have hq2:vs[q]? = some vs[q]:=List.getElem?_eq_getElem (by rw[hvl];exact hq);have:zv.cells[q % sz']? = some vs[q]:=by rw[← hg];exact hq2
          exact v3 _ (Array.mem_toList_iff.2 (Array.mem_of_getElem? this))
         have hbound:lo*sz'+vs.length≤arr.size:=by
          rw[hvl,c5,← Nat.add_mul];exact Nat.mul_le_mul_right _ h2
         let ob:Obj:=.cells (Z2v arr (lo*sz') vs) el (0,0)
         have hb:ki.b<w.heap.size:=(Array.getElem?_eq_some_iff.1 c4).1;have hne:∀ b,I b→(World.setBlock w ki.b ob).heap[b]? = w.heap[b]? := fun b hb'=>by
          rw[Z1l _ _ _ _ hb,if_neg];rintro rfl;exact hrel.inv.disj k _ ki hk2 eκ hb'
         have hrun:(Builtin.clear_ ts o.type #[.slice (some ⟨ki.b,lo*sz',none⟩) n (ki.cap-lo)]).run P w = .ok (.tuple #[]) (World.setBlock w ki.b ob):=by
          have hst:=Z79 (P:=P) (b:=ki.b) (el:=el) vs w arr (lo*sz') c4 hbound hleaf;obtain⟨m,rfl⟩:∃ m,n=m+1:=⟨n-1,by omega⟩
          have hz':(zeroValue el0).run P w = .ok zv w:=by simp[zeroValue,Z28 hinfo,hzero]
          simp only[Builtin.clear_,hts];simp[Zi hun,hz',ob,vs] at hst ⊢;rw[hst];rfl
         have hO:ORep (World.setBlock w ki.b ob) I κ ki (.row sz' el (es.take lo++List.replicate n zs)):=by
          refine⟨c1,by simp;omega,by simp;omega,Z2v arr (lo*sz') vs,by rw[Z1l _ _ _ _ hb,if_pos rfl],by rw[Z4o];exact c5,fun i hi => ?_⟩;simp only[List.length_append,List.length_take,List.length_replicate] at hi;by_cases hlt:i<lo
          ·rw[List.getElem_append_left (by simp;omega),List.getElem_take]
           obtain⟨q1,q2⟩:=c6 i (by omega);refine⟨q1,fun j hj => ?_⟩;obtain⟨u,u1,u2⟩:=q2 j hj;refine⟨u,?_,u2.mono (fun _ h=>h) hne⟩;rw[Z43 _ _ _ _ hbound,if_neg]
           ·exact u1
           ·have:=Z6c hlt (show j<sz' by omega);omega
          ·rw[List.getElem_append_right (by simp;omega),List.getElem_replicate]
           refine⟨b2,fun j hj => ?_⟩;rw[b2] at hj;obtain⟨u,u1,u2⟩:=v2 j (by omega);refine⟨u,?_,(Zct u2 (t2 j (by omega) (by omega))).mono (fun _ h=>h) hne⟩;have hil:i-lo<n:=by omega
           have e1:i*sz'+j-lo*sz'=(i-lo)*sz'+j:=by
            rw[Nat.sub_mul];have:=Nat.mul_le_mul_right sz' (show lo≤i by omega);omega
           have e2:=Z6c hil hj;have e3:=Nat.mul_le_mul_right sz' (show lo≤i by omega);rw[Z43 _ _ _ _ hbound,if_pos (by rw[hvl];omega),e1];have hg:=Zak (z:=zv.cells) (n:=n) (i:=i-lo) (j:=j) hil (by rw[hzsz];exact hj);rw[hzsz] at hg;show vs[(i-lo)*sz'+j]? = some u;rw[hg];exact u1
         obtain⟨f1,f2⟩:=hrel.inv.update hk2 eκ hO;refine⟨.tuple #[],_,_,κ,I,.inl rfl,?_,f1,fun _ h=>h,f2,fun _ _ _=>rfl,.top _⟩;simp only[execOp,ho,resolve,Deferred.ofValue,Sem.run_bind,Sem.run_pure,Result.andThen_ok,invoke,builtin];simp[ha,hrun]
       ·simp at he
      ·simp at he
     ·simp at he
    ·simp at he
   ·simp at he
  ·simp at he
def xMake (k:Nat) (es':List (List Im)):Ext where
 f P o s:=match o.op with
  | .makeSlice t x y=>match Z7k   P t,s.eval x,s.eval y with
   | some (e,sz),.im (.sc (.int _ l)),.im (.sc (.int _ c))=>match Z7g    P e,Zcm   P e with
    | some (by_,sz2),some z=>match toImL (Z0k      z) with
     | some zs=>match Nat.beq sz2 sz&&Z1s    (Z0k      z) with
      | true=>some ⟨[],[k],.own k,[(k,some (.row sz e es'))],[es'=List.replicate l.toNat zs,0≤l,l≤c,(by_:Int)*c≤281474976710656,c≤9223372036854775807]⟩
      | false=>none
     | none=>none
    | _,_=>none
   | _,_,_=>none
  | _=>none
 ok P o s e he hp:=by
  split at he
  ·rename_i t x y ho
   split at he
   ·rename_i el sz kl l kc c hel hx hy
    split at he
    ·rename_i by_ sz2 z hby hz
     split at he
     ·rename_i zs hzs
      split at he
      ·rename_i hb
       simp only[Bool.and_eq_true] at hb;obtain⟨b1,b3⟩:=hb;obtain rfl:=Nat.eq_of_beq_eq_true b1;obtain rfl:=Option.some.inj he;obtain⟨rfl,p2,p3,p4,p5,_⟩:=hp;obtain⟨hun,ag,hag⟩:=Z4h hel;obtain⟨i0,zv,hinfo,hzero,hbytes,hsize,hzcs⟩:=Z89 hby;obtain rfl:Za5 zv=z:=by
        unfold Zcm at hz;rw[hinfo] at hz;simp[hzero] at hz;exact hz
       obtain⟨t1,t2⟩:=Zap hzs;refine .of fun Γ κ I s2 a w hP hr hn hf => ?_;have hfk:=hf k (by simp[mkSp]);have g1:=(opd hr hn x (by simp[ho,Op.operands]) hx).sc_inv;have g2:=(opd hr hn y (by simp[ho,Op.operands]) hy).sc_inv;obtain⟨v1,v2,v3⟩:=Z3u (Z76 w I κ zv) b3;have hzl:zs.length=sz2:=by rw[t1,← v1,hzcs]
       let ki:KI:=⟨w.heap.size,c.toNat,sz2,l.toNat⟩
       let ob:Obj:=.cells (madeCells zv.cells (c.toNat*i0.size)) el
       have hrun:(Instr.makeSlice t (.int kl l) (.int kc c)).run P w = .ok (.slice (some ⟨w.heap.size,0,none⟩) l.toNat c.toNat) (World.alloc' w ob) :=
        run_make w t el i0 zv hun hinfo hzero kl kc l c p2 p3 (by rw[hbytes];exact p4) p5
       have hO:ORep (World.alloc' w ob) I (setK κ k (some ki)) ki (.row sz2 el (List.replicate l.toNat zs)):=by
        refine⟨rfl,by simp[ki],by simp[ki];omega,madeCells zv.cells (c.toNat*i0.size),Z67 _ _,by rw[size_madeCells,hsize],fun i hi => ?_⟩;simp only[List.length_replicate] at hi;rw[List.getElem_replicate];refine⟨hzl,fun j hj => ?_⟩;rw[hzl] at hj;obtain⟨u,u1,u2⟩:=v2 j (by omega);refine⟨u,?_,(Zct u2 (t2 j (by omega) (by omega))).mono (fun _ h=>h) (fun b hb=>Z5m _ _ _ (hr.inv.bound b hb))⟩;have hlt:i*sz2+j<c.toNat*sz2:=Z6c (by omega) hj;have hm:(i*sz2+j) % sz2=j:=by rw[Nat.mul_comm,Nat.mul_add_mod,Nat.mod_eq_of_lt hj]
        have hcs:j<zv.cells.size:=by omega
        rw[← u1];simp only[madeCells,hsize,hzcs];simp[hlt,hm,hcs]
       obtain⟨f1,f2,f3⟩:=hr.inv.alloc hfk (ki:=ki) rfl hO;refine⟨_,_,_,_,I,.inl rfl,?_,f1,fun _ h=>h,f2,f3,.own (ki:=ki) (Z1u ..)⟩;simp[execOp,ho,g1,g2,hrun,ki]
      ·simp at he
     ·simp at he
    ·simp at he
   ·simp at he
  ·simp at he
end Go.Pv
namespace Go.Pv
open Go.Instr
def hit {K:Type} [DecidableEq K] (a:K):List K→List MapEntry→Nat→Option (Nat×Value)
 | k::ks,e::es,i=>if k=a then some (i,e.val) else hit a ks es (i+1)
 | _,_,_=>none
structure KeyOK (P:Program) (t:TypeId) {K:Type} [DecidableEq K] (vk:K→Value):Prop where
 check:∀ b a w,(checkKey b 10000 t (vk a)).run P w = .ok () w
 find:∀ a (es:List MapEntry) (ks:List K) w,es.map (·.key)=ks.map vk→(findKey t (vk a) es).run P w = .ok (hit a ks es 0) w
 same:∀ a w,(keyThatStays (vk a) (vk a)).run P w = .ok (vk a) w
theorem Zf2 {K:Type} [DecidableEq K] {d:TypeDesc} {vk:K→Value} (h:∀ a b,sameNow d (vk a) (vk b)=some (decide (b=a))) (a:K):∀ (es:List MapEntry) (ks:List K) (i:Nat),es.map (·.key)=ks.map vk→findNow d (vk a) es i=some (hit a ks es i)
 | [],[],i,_=>by simp[findNow,hit]
 | [],k::ks,i,e=>by simp at e
 | e::es,[],i,q=>by simp at q
 | e::es,k::ks,i,q=>by
  simp only[List.map_cons,List.cons.injEq] at q;rw[findNow,q.1,h,hit];by_cases c:k=a
  ·simp[c]
  ·simp[c,Zf2 h a es ks (i+1) q.2]
theorem key_plain {K:Type} [DecidableEq K] {P:Program} {t:TypeId} {d:TypeDesc} {vk:K→Value} (ht:P.underlying t=some d) (hc:∀ b a w,(checkKey b 10000 t (vk a)).run P w = .ok () w) (h:∀ a b,sameNow d (vk a) (vk b)=some (decide (b=a))) (hs:∀ a,sameBits 10000 (vk a) (vk a)=true):KeyOK P t vk where
 check:=hc
 find a es ks w q:=by
  simp only[findKey,Sem.run_bind,Zi ht,Result.andThen_ok,Zf2 h a es ks 0 q,Sem.run_pure]
 same a w:=by simp[keyThatStays,hs]
theorem key_int {P:Program} {t:TypeId} {q:IntKind} (ht:P.underlying t=some (.int q)):KeyOK P t (fun a:Int=>Value.int q a) :=
 key_plain ht (fun b a w=>by
  have:∀ n,(checkKey b (n+1) t (.int q a)).run P w = .ok () w:=fun n=>by simp[checkKey,Zi ht]
  exact this 9999) (fun a b=>by
  simp only[sameNow,if_true];congr 1;by_cases c:b=a
  ·subst c;simp
  ·simp[c];exact fun h=>c (Eq.symm h)) (fun a=>by simp[sameBits])
def mE {K V:Type} (vk:K→Value) (iv:V→Im) (l:List (K×V)):List (Value×Im):=l.map fun p=>(vk p.1,iv p.2)
def mput {K V:Type} [DecidableEq K]:List (K×V)→K→V→List (K×V)
 | [],k,v=>[(k,v)]
 | p::l,k,v=>if p.1=k then(k,v)::l else p::mput l k v
def mget {K V:Type} [DecidableEq K]:List (K×V)→K→Option V
 | [],_=>none
 | p::l,k=>if p.1=k then some p.2 else mget l k
theorem hit_ok {K V:Type} [DecidableEq K] (k:K):∀ (l:List (K×V)) (E:List MapEntry) (off:Nat),E.length=l.length →
  (hit k (l.map (·.1)) E off=none∧mget l k=none∧∀ v,mput l k v=l++[(k,v)]) ∨
  ∃ i e p,E[i]? = some e∧l[i]? = some p∧p.1=k∧hit k (l.map (·.1)) E off=some (off+i,e.val)∧mget l k=some p.2∧∀ v,mput l k v=l.set i (k,v)
 | [],E,off,_=>.inl ⟨by simp[hit],rfl,fun v=>rfl⟩
 | p::l,[],off,h=>by simp at h
 | p::l,e::E,off,h=>by
  by_cases c:p.1=k
  ·exact .inr ⟨0,e,p,rfl,rfl,c,by simp[hit,c],by simp[mget,c],fun v=>by simp[mput,c]⟩
  ·rcases hit_ok k l E (off+1) (by simpa using h) with ⟨h1,h2,h3⟩ | ⟨i,e',p',h1,h2,h3,h4,h5,h6⟩
   ·exact .inl ⟨by simp[hit,c,h1],by simp[mget,c,h2],fun v=>by simp[mput,c,h3]⟩
   ·exact .inr ⟨i+1,e',p',by simpa using h1,by simpa using h2,h3,by simp[hit,c,h4];omega,by simp[mget,c,h5],fun v=>by simp[mput,c,h6]⟩
theorem Z9m {P:Program} {w:World} {b:Nat} {arr:Array MapEntry} {c:Nat} (hb:w.heap[b]? = some (.map arr c)):(getObj b).run P w = .ok (.map arr c) w:=by simp[getObj,Sem.run,hb]
theorem Zev {P:Program} {w:World} {b:Nat} {arr:Array MapEntry} {c:Nat} {o':Obj} (hb:w.heap[b]? = some (.map arr c)):(setObj b o').run P w = .ok () (World.setBlock w b o'):=by simp[setObj,Sem.run,hb,World.setBlock]
theorem run_mlook {P:Program} {t kt et:TypeId} {K:Type} [DecidableEq K] {vk:K→Value} {w:World} {b:Nat} {arr:Array MapEntry} {clock:Nat} {ks:List K} {z:Value} {c:Bool} {k:K} (ht:P.underlying t=some (.map kt et)) (hk:KeyOK P kt vk) (hb:w.heap[b]? = some (.map arr clock)) (hks:arr.toList.map (·.key)=ks.map vk) (hz:(zeroValue et).run P w = .ok z w) :
  (lookup t (.map (some b)) (vk k) c).run P w = .ok (if c then .tuple #[((hit k ks arr.toList 0).map (·.2)).getD z,.bool (hit k ks arr.toList 0).isSome] else((hit k ks arr.toList 0).map (·.2)).getD z) w:=by
 simp only[lookup,Sem.run_bind,Zi ht,Result.andThen_ok,Z9m hb,Sem.run_pure,hk.check,hk.find k arr.toList ks w hks];cases hit k ks arr.toList 0 with
 | none=>simp[hz]
 | some p=>simp
theorem run_mput {P:Program} {t kt et:TypeId} {K:Type} [DecidableEq K] {vk:K→Value} {w:World} {b:Nat} {arr:Array MapEntry} {clock:Nat} {ks:List K} {k:K} {v:Value} (ht:P.underlying t=some (.map kt et)) (hk:KeyOK P kt vk) (hb:w.heap[b]? = some (.map arr clock)) (hks:arr.toList.map (·.key)=ks.map vk) :
  (hit k ks arr.toList 0=none→(mapUpdate t (.map (some b)) (vk k) v).run P w = .ok () (World.setBlock w b (.map (arr.push ⟨vk k,v,clock⟩) (clock+1)))) ∧
  ∀ i u e,hit k ks arr.toList 0=some (i,u)→arr[i]? = some e→e.key=vk k→(mapUpdate t (.map (some b)) (vk k) v).run P w = .ok () (World.setBlock w b (.map (arr.modify i fun e => { e with key:=vk k,val:=v }) clock)):=by
 constructor
 ·intro h
  simp only[mapUpdate,Sem.run_bind,Zi ht,Result.andThen_ok,Z9m hb,hk.check,hk.find k arr.toList ks w hks,h,Zev hb]
 ·intro i u e h he hkey
  simp only[mapUpdate,Sem.run_bind,Zi ht,Result.andThen_ok,Z9m hb,hk.check,hk.find k arr.toList ks w hks,h,he,Option.map_some,Option.getD_some,hkey,hk.same,Zev hb]
theorem map_at {w:World} {I:Nat→Prop} {κ:Nat→Option KI} {k:Nat} {es:List (Value×Im)} (h:OAt w I κ k (.map es)):∃ ki arr,κ k=some ki∧w.heap[ki.b]? = some (.map arr es.length)∧arr.size=es.length ∧
  ∀ i (h:i<es.length),∃ e,arr[i]? = some e∧e.born=i∧e.key=(es[i]).1∧IRep w I (es[i]).2 e.val:=by
 unfold OAt at h;cases e:κ k with
 | none=>rw[e] at h;obtain⟨_,_,h⟩:=h;simp at h
 | some ki=>rw[e] at h;obtain⟨arr,h1,h2,h3⟩:=h;exact⟨ki,arr,rfl,h1,h2,h3⟩
theorem mown_inv {w:World} {I:Nat→Prop} {κ:Nat→Option KI} {k:Nat} {v:Value} (h:Rep w I κ (.mown k) v):∃ ki,κ k=some ki∧v = .map (some ki.b):=by
 cases h with
 | mown e=>exact⟨_,e,rfl⟩
theorem keys_mE {K V:Type} {vk:K→Value} {iv:V→Im} {l:List (K×V)} {arr:Array MapEntry} (hs:arr.size=(mE vk iv l).length) (h:∀ i (h:i<(mE vk iv l).length),∃ e,arr[i]? = some e∧e.born=i∧e.key=((mE vk iv l)[i]).1∧True):arr.toList.map (·.key)=(l.map (·.1)).map vk:=by
 apply List.ext_getElem
 ·simp[hs,mE]
 ·intro i h1 h2
  simp only[List.length_map,Array.length_toList] at h1;obtain⟨e,e1,_,e3,_⟩:=h i (by omega);rw[Array.getElem?_eq_getElem h1] at e1;obtain rfl:=Option.some.inj e1;simp[e3,mE]
def valA:AVal→Option Value
 | .im (.sc v)=>some v
 | .agg cells=>(Zau cells).map fun vs=>.agg vs.toArray
 | _=>none
theorem valA_rep {w:World} {I:Nat→Prop} {κ:Nat→Option KI} {x:AVal} {v u:Value} (h:valA x=some v) (hr:Rep w I κ x u):u=v:=by
 unfold valA at h;split at h
 ·obtain rfl:=Option.some.inj h;exact hr.sc_inv
 ·rename_i cells
  cases e:Zau cells with
  | none=>rw[e] at h;simp at h
  | some vs=>rw[e] at h;simp at h;rw[← h];exact agg_sc e hr
 ·simp at h
def xMk (k:Nat):Ext where
 f P o s:=match o.op with
  | .makeMap t none=>some ⟨[],[k],.mown k,[(k,some (.map []))],[]⟩
  | _=>none
 ok P o s e he hp:=by
  split at he
  ·rename_i t ho
   obtain rfl:=Option.some.inj he;refine .of fun Γ κ I s2 a w hP hr hn hf => ?_;have hfk:=hf k (by simp[mkSp])
   let ki:KI:=⟨w.heap.size,0,0,0⟩
   have hO:ORep (World.alloc' w (.map #[] 0)) I (setK κ k (some ki)) ki (.map []):=⟨#[],Z67 _ _,rfl,fun i h=>absurd h (Nat.not_lt_zero _)⟩
   obtain⟨f1,f2,f3⟩:=hr.inv.alloc hfk (ki:=ki) rfl hO;refine⟨_,_,_,_,I,.inl rfl,?_,f1,fun _ h=>h,f2,f3,.mown (ki:=ki) (Z1u ..)⟩;simp[execOp,ho,makeMap,newObj,Sem.run,World.alloc',ki]
  ·simp at he
def putOp:Op→Option (TypeId×Operand×Operand×Operand)
 | .mapUpdate t m k x=>some (t,m,k,x)
 | .insert t m k x=>some (t,m,k,x)
 | _=>none
theorem putOp_of {o:Op} {t:TypeId} {x y z:Operand} (h:putOp o=some (t,x,y,z)):o = .mapUpdate t x y z∨o = .insert t x y z:=by
 unfold putOp at h;split at h
 ·simp at h;obtain⟨rfl,rfl,rfl,rfl⟩:=h;exact .inl rfl
 ·simp at h;obtain⟨rfl,rfl,rfl,rfl⟩:=h;exact .inr rfl
 ·simp at h
def xPut {K V:Type} [DecidableEq K] (vk:K→Value) (iv:V→Im) (l:List (K×V)) (k:K) (v:V):Ext where
 f P o s:=match putOp o.op with
  | some (t,x,y,z)=>match P.underlying t,s.eval x,s.eval z with
   | some (.map kt et),.mown m,.im u=>match s.obj m with
    | some (.map es)=>some ⟨[m],[],.top,[(m,some (.map (mE vk iv (mput l k v))))],[KeyOK P kt vk,es=mE vk iv l,valA (s.eval y)=some (vk k),u=iv v]⟩
    | _=>none
   | _,_,_=>none
  | none=>none
 ok P o s e he hp:=by
  split at he
  ·rename_i t x y z hop
   have hop:=putOp_of hop;split at he
   ·rename_i kt et m u ht hx hz
    split at he
    ·rename_i es hm
     obtain rfl:=Option.some.inj he;obtain⟨hK,rfl,hy,rfl,_⟩:=hp;refine .of fun Γ κ I s2 a w hP hr hn hf => ?_;have g1:=opd hr hn x (by rcases hop with ho | ho<;>simp[ho,Op.operands]) hx;have g2:=valA_rep hy (opd hr hn y (by rcases hop with ho | ho<;>simp[ho,Op.operands]) rfl);have g3:=opd hr hn z (by rcases hop with ho | ho<;>simp[ho,Op.operands]) hz;have hm2:=(Z1r hn m (by simp)).trans hm;obtain⟨ki,eκ,ex⟩:=mown_inv g1;obtain⟨ki',arr,eκ',h1,h2,h3⟩:=map_at (hr.inv.objs m _ hm2);rw[eκ] at eκ';obtain rfl:=Option.some.inj eκ';have hks:=keys_mE h2 (fun i hi=>let ⟨e,a1,a2,a3,_⟩:=h3 i hi;⟨e,a1,a2,a3,trivial⟩);have hlen:(mE vk iv l).length=l.length:=by simp[mE]
     obtain⟨r1,r2⟩:=run_mput (v:=a.eval z) (k:=k) ht hK h1 hks;have hb:ki.b<w.heap.size:=(Array.getElem?_eq_some_iff.1 h1).1;have hne:∀ ob b,I b→(World.setBlock w ki.b ob).heap[b]? = w.heap[b]? := fun ob b hb'=>by
      rw[Z1l _ _ _ _ hb,if_neg];rintro rfl;exact hr.inv.disj m _ ki hm2 eκ hb'
     have hv:IRep w I (iv v) (a.eval z):=by cases g3 with | im h=>exact h
     have fin:∀ ob,(execOp a.eval o).run P w = .ok .skip (World.setBlock w ki.b ob)→ORep (World.setBlock w ki.b ob) I κ ki (.map (mE vk iv (mput l k v))) →
       ∃ v' nx w' κ' I',Gives v' nx∧(execOp a.eval o).run P w = .ok nx w'∧Inv Γ κ' I' (s2.objput [(m,some (.map (mE vk iv (mput l k v))))]) w'∧(∀ b,I b→I' b)∧(∀ b,I b→w'.heap[b]? = w.heap[b]?)∧(∀ x k,(s2.get x).has k=true→κ' k=κ k)∧Rep w' I' κ' .top v':=by
      intro ob hrun hO;obtain⟨f1,f2⟩:=hr.inv.update hm2 eκ hO;exact⟨_,_,_,κ,I,.inr ⟨rfl,rfl⟩,hrun,f1,fun _ h=>h,f2,fun _ _ _=>rfl,.top _⟩
     rcases hit_ok k l arr.toList 0 (by simp[h2,hlen]) with ⟨q1,q2,q3⟩ | ⟨i,e,p,q1,q2,q3,q4,q5,q6⟩
     ·refine fin (.map (arr.push ⟨vk k,a.eval z,(mE vk iv l).length⟩) ((mE vk iv l).length+1)) (by rcases hop with ho | ho<;>simp only[execOp,ho,ex,g2,Sem.run_bind,r1 q1,Result.andThen_ok,Sem.run_pure]) ?_
      rw[q3];refine⟨arr.push ⟨vk k,a.eval z,(mE vk iv l).length⟩,by rw[Z1l _ _ _ _ hb,if_pos rfl];simp[mE],by simp[mE,h2],fun i hi => ?_⟩;simp only[mE,List.length_map,List.length_append,List.length_cons,List.length_nil] at hi;by_cases c:i<l.length
      ·obtain⟨e,a1,a2,a3,a4⟩:=h3 i (by omega)
       refine⟨e,by rw[Array.getElem?_push,if_neg (by omega),a1],a2,?_,?_⟩
       ·rw[a3];simp[mE,List.getElem_append,c]
       ·have:(mE vk iv (l++[(k,v)]))[i]'(by simp[mE];omega)=(mE vk iv l)[i]'(by omega):=by simp[mE,List.getElem_append,c]
        rw[this];exact a4.mono (fun _ h=>h) (hne _)
      ·have hi':i=l.length:=by omega
       refine⟨⟨vk k,a.eval z,(mE vk iv l).length⟩,by rw[Array.getElem?_push,if_pos (by omega)],by simp[mE,hi'],by simp[mE,hi'],?_⟩;have:(mE vk iv (l++[(k,v)]))[i]'(by simp[mE];omega)=(vk k,iv v):=by simp[mE,hi']
       rw[this];exact hv.mono (fun _ h=>h) (hne _)
     ·have q1':arr[i]? = some e:=by simpa using q1
      have hil:i<l.length:=(List.getElem?_eq_some_iff.1 q2).1;obtain⟨e',a1,a2,a3,a4⟩:=h3 i (by omega);rw[q1'] at a1;obtain rfl:=Option.some.inj a1;have hkey:e.key=vk k:=by
       rw[a3];have:=(List.getElem?_eq_some_iff.1 q2).2;simp[mE,this,q3]
      have hrun:=r2 i e.val e (by rw[q4];simp) q1' hkey;refine fin (.map (arr.modify i fun e => { e with key:=vk k,val:=a.eval z }) (mE vk iv l).length) (by rcases hop with ho | ho<;>simp only[execOp,ho,ex,g2,Sem.run_bind,hrun,Result.andThen_ok,Sem.run_pure]) ?_;rw[q6];refine⟨arr.modify i fun e => { e with key:=vk k,val:=a.eval z },by rw[Z1l _ _ _ _ hb,if_pos rfl];simp[mE],by simp[mE,h2],fun j hj => ?_⟩;simp only[mE,List.length_map,List.length_set] at hj;obtain⟨e2,b1,b2,b3,b4⟩:=h3 j (by omega);by_cases c:i=j
      ·subst c
       refine⟨{ e with key:=vk k,val:=a.eval z },by simp[Array.getElem?_modify,q1'],a2,by simp[mE],?_⟩;have:(mE vk iv (l.set i (k,v)))[i]'(by simp[mE];omega)=(vk k,iv v):=by simp[mE]
       rw[this];exact hv.mono (fun _ h=>h) (hne _)
      ·refine⟨e2,by simp[Array.getElem?_modify,c,b1],b2,?_,?_⟩
       ·rw[b3];simp[mE,List.getElem_set,c]
       ·have:(mE vk iv (l.set i (k,v)))[j]'(by simp[mE];omega)=(mE vk iv l)[j]'(by omega):=by simp[mE,List.getElem_set,c]
        rw[this];exact b4.mono (fun _ h=>h) (hne _)
    ·simp at he
   ·simp at he
  ·simp at he
def xLook {K V:Type} [DecidableEq K] (vk:K→Value) (iv:V→Im) (l:List (K×V)) (k:K) (v0:V):Ext where
 f P o s:=match o.op with
  | .lookup t x y c=>match P.underlying t,s.eval x with
   | some (.map kt et),.mown m=>match s.obj m,Zcm   P et with
    | some (.map es),some (.im z)=>some ⟨[m],[],(match c with
      | true=>.tup [.im (iv ((mget l k).getD v0)),.im (.sc (.bool (mget l k).isSome))]
      | false=>.im (iv ((mget l k).getD v0))),[],[KeyOK P kt vk,es=mE vk iv l,valA (s.eval y)=some (vk k),z=iv v0]⟩
    | _,_=>none
   | _,_=>none
  | _=>none
 ok P o s e he hp:=by
  split at he
  ·rename_i t x y c ho
   split at he
   ·rename_i kt et m ht hx
    split at he
    ·rename_i es z hm hz
     obtain rfl:=Option.some.inj he;obtain⟨hK,rfl,hy,rfl,_⟩:=hp;unfold Zcm at hz;cases hi:P.info? et with
     | none=>rw[hi] at hz;simp at hz
     | some i =>
      cases hzz:i.zero with
      | none=>rw[hi] at hz;simp[hzz] at hz
      | some zv =>
       rw[hi] at hz;simp[hzz] at hz;refine .quiet rfl fun Γ κ I s2 a w hP hr hn => ?_;have g1:=opd hr hn x (by simp[ho,Op.operands]) hx;have g2:=valA_rep hy (opd hr hn y (by simp[ho,Op.operands]) rfl);have hm2:=(Z1r hn m (by simp)).trans hm;obtain⟨ki,eκ,ex⟩:=mown_inv g1;obtain⟨ki',arr,eκ',h1,h2,h3⟩:=map_at (hr.inv.objs m _ hm2);rw[eκ] at eκ';obtain rfl:=Option.some.inj eκ';have hks:=keys_mE h2 (fun i hi=>let ⟨e,a1,a2,a3,_⟩:=h3 i hi;⟨e,a1,a2,a3,trivial⟩);have hlen:(mE vk iv l).length=l.length:=by simp[mE]
       have hz0:(zeroValue et).run P w = .ok zv w:=by simp[zeroValue,Z28 hi,hzz]
       have hrun:=run_mlook (k:=k) (c:=c) ht hK h1 hks hz0;have hrep:Rep w I κ (.im (iv ((mget l k).getD v0))) (((hit k (l.map (·.1)) arr.toList 0).map (·.2)).getD zv)∧(hit k (l.map (·.1)) arr.toList 0).isSome=(mget l k).isSome:=by
        rcases hit_ok k l arr.toList 0 (by simp[h2,hlen]) with ⟨q1,q2,q3⟩ | ⟨i,e,p,q1,q2,q3,q4,q5,q6⟩
        ·rw[q1,q2]
         refine⟨?_,rfl⟩;have:=Z76 w I κ zv;rw[hz] at this;exact this
        ·rw[q4,q5]
         refine⟨?_,rfl⟩;have q1':arr[i]? = some e:=by simpa using q1
         have hil:i<l.length:=(List.getElem?_eq_some_iff.1 q2).1;obtain⟨e',a1,a2,a3,a4⟩:=h3 i (by omega);rw[q1'] at a1;obtain rfl:=Option.some.inj a1;have:=(List.getElem?_eq_some_iff.1 q2).2;simp[mE,this] at a4;exact .im a4
       cases c with
       | false=>exact⟨_,by simp[execOp,ho,ex,g2,hrun],hrep.1⟩
       | true =>
        refine⟨.tuple #[((hit k (l.map (·.1)) arr.toList 0).map (·.2)).getD zv,.bool (hit k (l.map (·.1)) arr.toList 0).isSome],by simp[execOp,ho,ex,g2,hrun],?_⟩;refine Rep.tup (vs:=[_,_]) rfl (fun j h h' => ?_)
        match j with
        | 0=>exact hrep.1
        | 1=>show Rep _ _ _ (.im (.sc (.bool (mget l k).isSome))) (.bool _);rw[hrep.2];exact .im (.sc _)
        | j+2=>exact absurd h (by simp)
    ·simp at he
   ·simp at he
  ·simp at he
theorem valA_mk {w:World} {I:Nat→Prop} {κ:Nat→Option KI} {x:AVal} {v:Value} (h:valA x=some v):Rep w I κ x v:=by
 unfold valA at h;split at h
 ·obtain rfl:=Option.some.inj h;exact .im (.sc _)
 ·rename_i cells
  cases e:Zau cells with
  | none=>rw[e] at h;simp at h
  | some vs =>
   rw[e] at h;simp at h;rw[← h];obtain rfl:=Zat e;exact .agg (by simp) (fun j h h'=>by rw[List.getElem_map];exact .im (.sc _))
 ·simp at h
theorem iter_at {w:World} {I:Nat→Prop} {κ:Nat→Option KI} {k:Nat} {m:Option Nat} {n:Nat} {sn:List Nat} (h:OAt w I κ k (.iter m n sn)):∃ ki bm,κ k=some ki∧w.heap[ki.b]? = some (.mapIter (some bm) n sn.toArray n) ∧
  ∀ m',m=some m'→∃ km,κ m'=some km∧km.b=bm:=by
 unfold OAt at h;cases e:κ k with
 | none=>rw[e] at h;obtain⟨_,_,h⟩:=h;simp at h
 | some ki=>rw[e] at h;obtain⟨bm,h1,h2⟩:=h;exact⟨ki,bm,rfl,h1,h2⟩
theorem ptr00 {w:World} {I:Nat→Prop} {κ:Nat→Option KI} {k:Nat} {ki:KI} {v:Value} (h:Rep w I κ (.ptr k 0 0) v) (e:κ k=some ki):v = .pointer (some ⟨ki.b,0,none⟩):=by
 cases h with
 | ptr e'=>rw[e] at e';obtain rfl:=Option.some.inj e';simp
def xRng (k n:Nat):Ext where
 f P o s:=match o.op with
  | .range t x=>match P.underlying t,s.eval x with
   | some (.map _ _),.mown m=>match s.obj m with
    | some (.map es)=>some ⟨[m],[k],.ptr k 0 0,[(k,some (.iter (some m) n []))],[n=es.length]⟩
    | _=>none
   | _,_=>none
  | _=>none
 ok P o s e he hp:=by
  split at he
  ·rename_i t x ho
   split at he
   ·rename_i kt et m ht hx
    split at he
    ·rename_i es hm
     obtain rfl:=Option.some.inj he;obtain⟨rfl,_⟩:=hp;refine .of fun Γ κ I s2 a w hP hr hn hf => ?_;have hfk:=hf k (by simp[mkSp]);have g1:=opd hr hn x (by simp[ho,Op.operands]) hx;have hm2:=(Z1r hn m (by simp)).trans hm;obtain⟨km,eκ,ex⟩:=mown_inv g1;obtain⟨ki',arr,eκ',h1,h2,h3⟩:=map_at (hr.inv.objs m _ hm2);rw[eκ] at eκ';obtain rfl:=Option.some.inj eκ';have hmk:m≠k:=fun e=>by rw[e,hfk.2.2.1] at hm2;simp at hm2
     let ki:KI:=⟨w.heap.size,0,0,0⟩
     have hO:ORep (World.alloc' w (.mapIter (some km.b) es.length #[] es.length)) I (setK κ k (some ki)) ki (.iter (some m) es.length []) :=
      ⟨km.b,Z67 _ _,fun m' e=>by obtain rfl:=Option.some.inj e;exact⟨km,(Z96 _ _ _ hmk).trans eκ,rfl⟩⟩
     obtain⟨f1,f2,f3⟩:=hr.inv.alloc hfk (ki:=ki) rfl hO;refine⟨.pointer (some ⟨w.heap.size,0,none⟩),_,World.alloc' w (.mapIter (some km.b) es.length #[] es.length),_,I,.inl rfl,?_,f1,fun _ h=>h,f2,f3,?_⟩
     ·simp[execOp,ho,ex,Instr.range,Zi ht,Z9m h1,newObj,Sem.run,World.alloc']
     ·have:=Rep.ptr (w:=World.alloc' w (.mapIter (some km.b) es.length #[] es.length)) (I:=I) (κ:=setK κ k (some ki)) (k:=k) (e:=0) (j:=0) (ki:=ki) (Z1u       ..)
      show Rep _ _ _ (.ptr k 0 0) _;simpa[ki] using this
    ·simp at he
   ·simp at he
  ·simp at he
theorem born_nodup {arr:Array MapEntry} (h:∀ (i:Nat) (e:MapEntry),arr[i]? = some e→e.born=i):(arr.toList.map (·.born)).Nodup:=by
 have:arr.toList.map (·.born)=List.range arr.size:=by
  apply List.ext_getElem (by simp);intro i h1 h2;simp only[List.length_map,Array.length_toList] at h1;have:=h i arr[i] (Array.getElem?_eq_getElem h1);simp[this]
 rw[this];exact List.nodup_range
def xEnt {K V:Type} (vk:K→Value) (iv:V→Im) (l:List (K×V)) (i:Nat) (p:K×V) (ka:AVal):Ext where
 f P o s:=match o.op with
  | .entry x=>match s.eval x with
   | .ptr k 0 0=>match s.obj k with
    | some (.iter (some m) n sn)=>match s.obj m with
     | some (.map es)=>some ⟨[k,m],[],.tup [ka,.im (iv p.2)],[],[n=es.length,sn.getLast? = some i,es=mE vk iv l,l[i]? = some p,valA ka=some (vk p.1)]⟩
     | _=>none
    | _=>none
   | _=>none
  | _=>none
 ok P o s e he hp:=by
  split at he
  ·rename_i x ho
   split at he
   ·rename_i k hx
    split at he
    ·rename_i m n sn hk
     split at he
     ·rename_i es hm
      obtain rfl:=Option.some.inj he;obtain⟨rfl,hl,rfl,hp',hka,_⟩:=hp;refine .quiet rfl fun Γ κ I s2 a w hP hr hn => ?_;have g1:=opd hr hn x (by simp[ho,Op.operands]) hx;have hm2:=(Z1r hn m (by simp)).trans hm;have hk2:=(Z1r hn k (by simp)).trans hk;obtain⟨km,arr,eκ,h1,h2,h3⟩:=map_at (hr.inv.objs m _ hm2);obtain⟨ki,bm,eκ2,q1,q2⟩:=iter_at (hr.inv.objs k _ hk2);obtain⟨km',e',rfl⟩:=q2 m rfl;rw[eκ] at e';obtain rfl:=Option.some.inj e';have ex:=ptr00 g1 eκ2;obtain⟨hi,rfl⟩:=List.getElem?_eq_some_iff.1 hp';have hlen:(mE vk iv l).length=l.length:=by simp[mE]
      obtain⟨e,a1,a2,a3,a4⟩:=h3 i (by omega);have hnd:=born_nodup (arr:=arr) (fun j e' he'=>by
       have hj:j<arr.size:=(Array.getElem?_eq_some_iff.1 he').1;obtain⟨e2,b1,b2,_⟩:=h3 j (by omega);rw[he'] at b1;obtain rfl:=Option.some.inj b1;exact b2)
      have hsn:sn.toArray=sn.dropLast.toArray.push e.born:=by
       rw[a2];obtain⟨hne,hlast⟩:=List.getLast?_eq_some_iff.1 hl;subst hlast;simp
      rw[hsn] at q1;have he:e∈arr.toList:=by
       have:=Array.mem_of_getElem? a1;simpa using this
      have hrun:=run_entry_at (P:=P) w ki.b km.b (mE vk iv l).length sn.dropLast.toArray arr (mE vk iv l).length e q1 h1 he hnd;refine⟨.tuple #[e.key,e.val],by simp[execOp,ho,ex,hrun],?_⟩;simp only[mE,List.getElem_map] at a3 a4;refine Rep.tup (vs:=[_,_]) rfl (fun j h h' => ?_)
      match j with
      | 0=>show Rep _ _ _ ka e.key;rw[a3];exact valA_mk hka
      | 1=>exact .im a4
      | j+2=>exact absurd h (by simp)
     ·simp at he
    ·simp at he
   ·simp at he
  ·simp at he
def remI (n:Nat) (sn:List Nat):List Nat:=(List.range n).filter fun i => !sn.contains i
theorem remI_push {n:Nat} {sn:List Nat} {i:Nat} (hi:i∈remI n sn):∃ A B,remI n sn=A++i::B∧remI n (sn++[i])=A++B:=by
 obtain⟨h1,h2⟩:=List.mem_filter.1 hi;have hin:i<n:=by simpa using h1
 have:=Ze0 (l:=List.range n) (f:=fun j => !sn.contains j) (g:=fun j => !(sn++[i]).contains j) (i:=i) (by simpa using hin) (by simpa using h2) (by simp) (fun j hj hne=>by simp[hne]);simp only[List.getElem_range] at this;exact⟨_,_,this.1,this.2⟩
theorem Sat.drew {Γ:Ctx} {s:Z1} {a:Act} {w:World} (hs:Sat Γ s a w):Sat Γ s a w.drew:=by
 obtain⟨κ,I,hr⟩:=hs;have hk:Zbb Γ.M0 Γ.w0 w.drew:=⟨hr.inv.keep.os,hr.inv.keep.tape,hr.inv.keep.output,hr.inv.keep.size,hr.inv.keep.block⟩
 refine⟨κ,I,hr.size,hr.defers,fun x=>(hr.slots x).mono (fun _ h=>h) (fun _ _=>rfl) (fun _ _=>rfl),?_,hr.inv.inj,hr.inv.disj,hr.inv.bound,hk,hr.inv.ikeep,hr.inv.fromI,hr.inv.fromO,hr.inv.fix⟩;intro k o hko;have:=hr.inv.objs k o hko;unfold OAt at this ⊢;split
 ·rename_i e;rw[e] at this;exact this
 ·rename_i ki e;rw[e] at this;exact this.mono (fun _ h=>h) (fun _ _=>rfl) rfl (fun _ _=>rfl)
theorem Sat.putv {Γ:Ctx} {s:Z1} {a:Act} {w:World} {κ:Nat→Option KI} {I:Nat→Prop} (hr:Rel Γ κ I s a w) (d:Nat) (hd:d<Γ.n) {x:AVal} {v:Value} (hx:Rep w I κ x v):Rel Γ κ I (s.put (some d) x) (a.put (some d) v) w:=by
 refine⟨by simpa[Act.put] using hr.size,hr.defers,fun y => ?_,hr.inv.eqv (fun k o hk=>by rw[Z1.obj_put] at hk;exact hk) rfl⟩;rw[Z1.get_put];by_cases e:d=y
 ·rw[if_pos e]
  have hsz:d<a.tmps.size:=by rw[hr.size];exact hd
  have:(a.put (some d) v).tmps.getD y undef=v:=by subst e;simp[Act.put,hsz]
  rw[this];exact hx
 ·rw[if_neg e]
  have:(a.put (some d) v).tmps.getD y undef=a.tmps.getD y undef:=by simp[Act.put,Array.getD_eq_getD_getElem?,Array.getElem?_setIfInBounds,e]
  rw[this];exact hr.slots y
theorem AWp.next {Γ:Ctx} {P:Program} {id:Nat} {o1 o2:Oper} {Q:Exit→Z1→Prop} {s:Z1} {x:Operand} (d1 d2 k m:Nat) {n:Nat} {sn:List Nat} {es:List (Value×Im)} (hP:Γ.P=P) (h1:o1.op = .next x false) (h2:o2.op = .extract (.tmp d1) 0) (g1:o1.guard=none) (g2:o2.guard=none) (e1:o1.dst=some d1) (e2:o2.dst=some d2) (l1:d1<Γ.n) (l2:d2<Γ.n) (hx:s.eval x = .ptr k 0 0) (hk:s.obj k=some (.iter (some m) n sn)) (hm:s.obj m=some (.map es)) (hn:n=es.length) (h0:remI n sn=[]→Q .normal ((s.put (some d1) .top).put (some d2) (.im (.sc (.bool false))))) (hi:∀ i A B,remI n sn=A++i::B→remI n (sn++[i])=A++B→i<n→Q .normal (((s.objput [(k,some (.iter (some m) n (sn++[i])))]).put (some d1) .top).put (some d2) (.im (.sc (.bool true))))) :
  AWp Γ (.region id #[o1,o2] false) Q s:=by
 subst hP;intro a w hs;refine wp_region_lit ?_;refine wpList_plain g1 fun K hK => ?_;obtain⟨κ,I,hr⟩:=hs;obtain⟨km,arr,eκ,q1,q2,q3⟩:=map_at (hr.inv.objs m _ hm);obtain⟨ki,bm,eκ2,r1,r2⟩:=iter_at (hr.inv.objs k _ hk);obtain⟨km',e',rfl⟩:=r2 m rfl;rw[eκ] at e';obtain rfl:=Option.some.inj e';have hrx:=hr.eval x;rw[hx] at hrx;have ex:=ptr00 hrx eκ2;have hborn:∀ e∈arr.toList,∃ i,arr[i]? = some e∧e.born=i∧i<n:=by
  intro e he;obtain⟨i,hi,rfl⟩:=List.mem_iff_getElem.1 he;simp only[Array.length_toList] at hi;obtain⟨e2,b1,b2,_⟩:=q3 i (by omega);have:arr[i]? = some arr[i]:=Array.getElem?_eq_getElem hi;rw[this] at b1;obtain rfl:=Option.some.inj b1;exact⟨i,by simp,by simpa using b2,by omega⟩
 have step2:∀ (s1:Z1) (a1:Act) (w1:World) (b:Bool) (vs:List Value),Sat Γ s1 (a1.put (some d1) (.tuple ((.bool b)::vs).toArray)) w1→d1<a1.tmps.size→Q .normal (s1.put (some d2) (.im (.sc (.bool b)))) →
   wpList Γ.P #[o1,o2] (fun e a' w'=>∃ s',Sat Γ s' a' w'∧Q e s') [o2] (a1.put (some d1) (.tuple ((.bool b)::vs).toArray)) w1:=by
  intro s1 a1 w1 b vs hs1 hsz hq;refine wpList_plain g2 fun K hK => ?_;have hval:(a1.put (some d1) (.tuple ((.bool b)::vs).toArray)).eval (.tmp d1) = .tuple ((.bool b)::vs).toArray:=by simp[Act.put,Act.eval,hsz]
  have hgoal:=hK ((a1.put (some d1) (.tuple ((.bool b)::vs).toArray)).put o2.dst (.bool b)) w1 (by
   refine⟨_,?_,hq⟩;rw[e2];obtain⟨κ1,I1,hr1⟩:=hs1;exact⟨κ1,I1,Sat.putv hr1 d2 l2 (.im (.sc _))⟩)
  unfold Oper.wp;simp[execOp,h2,hval,Instr.extract,Result.andThen];exact hgoal
 have hmemI:∀ e,e∈(leftOf arr sn.toArray).toList↔∃ i,arr[i]? = some e∧e.born=i∧i∈remI n sn:=by
  intro e;constructor
  ·intro he
   have he':e∈arr∧e.born ∉ sn:=by simpa[leftOf] using he
   obtain⟨i,b1,b2,b3⟩:=hborn e (by simpa using he'.1);refine⟨i,b1,b2,List.mem_filter.2 ⟨by simpa using b3,?_⟩⟩;rw[b2] at he';simpa using he'.2
  ·rintro⟨i,b1,b2,b3⟩
   obtain⟨_,b4⟩:=List.mem_filter.1 b3;have:=Array.mem_of_getElem? b1;have hb4:i ∉ sn:=by simpa using b4
   simp[leftOf,this,b2,hb4]
 have hsz1:d1<a.tmps.size:=by rw[hr.size];exact l1
 rcases run_next_at (P:=Γ.P) w o1.type ki.b km.b n n sn.toArray arr es.length r1 q1 (fun e he=>by obtain⟨i,_,b2,b3⟩:=hborn e he;omega) (by omega) with ⟨c0,hrun⟩ | ⟨e,he,w1,hw1,hrun⟩
 ·have hrem:remI n sn=[]:=by
   refine List.eq_nil_iff_forall_not_mem.2 fun i hi' => ?_;have hin:i<n:=by have:=(List.mem_filter.1 hi').1;simpa using this
   obtain⟨e,b1,b2,_⟩:=q3 i (by omega);have:=(hmemI e).2 ⟨i,b1,b2,hi'⟩;have h00:(leftOf arr sn.toArray).toList=[]:=by rw[← List.length_eq_zero_iff];simpa using c0
   rw[h00] at this;simp at this
  have hg:=hK (a.put o1.dst (.tuple #[.bool false])) w (by
   rw[e1];exact step2 (s.put (some d1) .top) a w false [] ⟨κ,I,Sat.putv hr d1 l1 (.top _)⟩ hsz1 (h0 hrem))
  unfold Oper.wp;simp[execOp,h1,ex,hrun,Result.andThen];exact hg
 ·obtain⟨i,b1,b2,b3⟩:=(hmemI e).1 he
  obtain⟨A,B,p1,p2⟩:=remI_push b3;have hin:i<n:=by have:=(List.mem_filter.1 b3).1;simpa using this
  have hs1:∃ κ I,Rel Γ κ I s a w1∧κ k=some ki∧κ m=some km∧w1.heap=w.heap:=by
   rcases hw1 with rfl | rfl
   ·exact⟨κ,I,hr,eκ2,eκ,rfl⟩
   ·have hk':Zbb   Γ.M0 Γ.w0 w.drew:=⟨hr.inv.keep.os,hr.inv.keep.tape,hr.inv.keep.output,hr.inv.keep.size,hr.inv.keep.block⟩
    refine⟨κ,I,⟨hr.size,hr.defers,fun x=>(hr.slots x).mono (fun _ h=>h) (fun _ _=>rfl) (fun _ _=>rfl),⟨fun k o hko => ?_,hr.inv.inj,hr.inv.disj,hr.inv.bound,hk',hr.inv.ikeep,hr.inv.fromI,hr.inv.fromO,hr.inv.fix⟩⟩,eκ2,eκ,rfl⟩;have:=hr.inv.objs k o hko;unfold OAt at this ⊢;split
    ·rename_i e;rw[e] at this;exact this
    ·rename_i ki e;rw[e] at this;exact this.mono (fun _ h=>h) (fun _ _=>rfl) rfl (fun _ _=>rfl)
  obtain⟨κ1,I1,hr1,f1,f2,f3⟩:=hs1
  let ob:Obj:=.mapIter (some km.b) n (sn++[e.born]).toArray es.length
  have hb:ki.b<w1.heap.size:=by rw[f3];exact(Array.getElem?_eq_some_iff.1 r1).1
  have hO:ORep (World.setBlock w1 ki.b ob) I1 κ1 ki (.iter (some m) n (sn++[i])):=by
   refine⟨km.b,by rw[Z1l _ _ _ _ hb,if_pos rfl];simp[ob,b2,hn],fun m' e=>by obtain rfl:=Option.some.inj e;exact⟨km,f2,rfl⟩⟩
  obtain⟨u1,u2⟩:=hr1.inv.update hk f1 hO;have hr2:Rel Γ κ1 I1 (s.objput [(k,some (.iter (some m) n (sn++[i])))]) a (World.setBlock w1 ki.b ob) :=
   ⟨hr1.size,hr1.defers,fun y=>(hr1.slots y).mono (fun _ h=>h) u2 (fun _ _=>rfl),u1⟩
  have hg:=hK (a.put o1.dst (.tuple #[.bool true,e.key,e.val])) (World.setBlock w1 ki.b ob) (by
   rw[e1];exact step2 _ a _ true [e.key,e.val] ⟨κ1,I1,Sat.putv hr2 d1 l1 (.top _)⟩ hsz1 (hi i A B p1 p2 hin))
  unfold Oper.wp;simp[execOp,h1,ex,hrun,Result.andThen];exact hg
end Go.Pv
namespace Go.Pv
open Classical in
noncomputable def rchk {α S O:Type} (L:List α→S→Option O) (l:List α) (v:S):Option O:=if ∀ q,q.Perm l→L q v=L l v then L l v else none
theorem rchk_of {α S O:Type} {L:List α→S→Option O} {l:List α} {v:S} {o:O} (h:rchk L l v=some o):∀ q,q.Perm l→L q v=some o:=by
 unfold rchk at h;split at h
 ·rename_i hp;exact fun q hq=>(hp q hq).trans h
 ·simp at h
theorem rchk_eq {α S O:Type} {L:List α→S→Option O} {l:List α} {v:S} {o:O} (h:∀ q,q.Perm l→L q v=some o):rchk L l v=some o:=by
 unfold rchk;rw[if_pos (fun q hq=>(h q hq).trans (h l (.refl _)).symm),h l (.refl _)]
def Zem {α:Type} (l:List α) (sn:List Nat):List α:=(remI l.length sn).filterMap fun i=>l[i]?
theorem picks_nil {α:Type} (l:List α):Zem l []=l:=by
 unfold Zem;have:remI l.length []=List.range l.length:=List.filter_eq_self.2 (by simp);rw[this];apply List.ext_getElem?;intro i;have:(List.range l.length).filterMap (fun i=>l[i]?)=l:=by
  have h:∀ n,n≤l.length→(List.range n).filterMap (fun i=>l[i]?)=l.take n:=by
   intro n
   induction n with
   | zero=>intro _;simp
   | succ n ih =>
    intro hn;rw[List.range_succ,List.filterMap_append,ih (by omega),List.take_add_one,List.getElem?_eq_getElem (by omega)];simp[List.getElem?_eq_getElem (show n<l.length by omega)]
  have:=h l.length (Nat.le_refl _);simpa using this
 rw[this]
abbrev vkI (q:IntKind) (a:Int):Value:=.int q a
theorem len_mE {K V:Type} (vk:K→Value) (iv:V→Im) (l:List (K×V)):l.length=(mE vk iv l).length:=by simp[mE]
end Go.Pv
open Go.RowKit
namespace Go.Pv
def noTabs (P:Program):Bool:=P.globals.toList.all fun x=>(tabNamed x.name).isNone
theorem noTabs_ok {P:Program} (h:noTabs P=true) (g:Nat):Zdx P g=none:=by
 unfold Zdx;split
 ·rename_i x hx
  have:=List.all_eq_true.1 h x (by rw[← Array.getElem?_toList] at hx;exact List.mem_of_getElem? hx);simpa using this
 ·rfl
def TabsAt (P:Program) (w:World):Prop:=∀ g cs,Zdx P g=some cs→g<w.heap.size∧∃ t m,w.heap[g]? = some (.cells cs.toArray t m)
theorem Fn.lawG {P:Program} {f:FuncId} {args:List AVal} {vs:List Value} {w:World} (h:Fn P f args [] 0 (fun x o=>x=bV true∧o=[])) (hl:vs.length=args.length) (hreps:∀ j (h:j<args.length) (h':j<vs.length),Rep w (fun b=>b<w.heap.size) (fun _=>none) (args[j]) (vs[j])) (ht:TabsAt P w) :
  Calls P f vs.toArray w fun e w'=>e = .returned (.bool true)∧Below w.heap.size w w':=by
 have hg:Zej P (fun b=>b<w.heap.size) (Z6r (fun _=>none) ⟨[],[],0⟩) w:=fun g cs e=>⟨(ht g cs e).1,(fun⟨k,o,ki,h1,_⟩=>by simp[Z1.obj,look] at h1),ht g cs e⟩
 have hinv:Inv (Z8p P 0 (fun _=>none) (fun b=>b<w.heap.size) ⟨[],[],0⟩ w hg) (fun _=>none) (fun b=>b<w.heap.size) ⟨[],[],0⟩ w:=by
  refine⟨?_,?_,?_,fun b h=>h,Zbb.refl _ _,fun _ h=>h,fun b h=>.inl h,?_,fun _ _=>rfl⟩
  ·intro k o h;simp[Z1.obj,look] at h
  ·intro k k' o o' ki ki' h;simp[Z1.obj,look] at h
  ·intro k o ki h;simp[Z1.obj,look] at h
  ·intro k o ki h;simp[Z1.obj,look] at h
 refine(h (fun _=>none) (fun b=>b<w.heap.size) w vs hl hreps hg hinv).mono ?_;rintro e w' ⟨v,r,o,κ',I',rfl,⟨rfl,rfl⟩,hr,hi⟩;refine⟨by rw[hr.sc_inv],?_⟩;have hM:∀ b,b<w.heap.size→w'.heap[b]? = w.heap[b]? := fun b hb=>hi.keep.block b hb (fun hm=>by
  obtain⟨k,o,ki,h1,_⟩:=hm;simp[Z1.obj,look] at h1)
 exact⟨hi.keep.os,hi.keep.tape,hi.keep.output,hi.keep.size,hM⟩
theorem Fn.law {P:Program} {f:FuncId} {args:List AVal} {vs:List Value} {w:World} (h:Fn P f args [] 0 (fun x o=>x=bV true∧o=[])) (hl:vs.length=args.length) (hreps:∀ j (h:j<args.length) (h':j<vs.length),Rep w (fun b=>b<w.heap.size) (fun _=>none) (args[j]) (vs[j])) (hn:noTabs P=true:=by kernel_rfl) :
  Calls P f vs.toArray w fun e w'=>e = .returned (.bool true)∧Below w.heap.size w w' :=
 h.lawG hl hreps (fun g cs e=>by rw[noTabs_ok hn g] at e;cases e)
theorem chkT {p:Prop} [Decidable p] (h:p):chk p=some ():=by simp[chk,h]
theorem sb {α β:Type} (a:α) (f:α→Option β):(some a>>=f)=f a:=rfl
theorem chkB {p:Prop} [Decidable p] {α:Type} {f:Unit→Option α} (h:p):(chk p>>=f)=f ():=by rw[chkT h];rfl
theorem Z8 {n:Int} (h0 : -9223372036854775808≤n) (h1:n<9223372036854775808):IntKind.i64.wrap n=n:=by
 simp only[IntKind.wrap,IntKind.signed,IntKind.bits];simp;omega
abbrev L (s:ByteArray):List UInt8:=s.data.toList
theorem Z7n (s:ByteArray):s.toList=L s:=ByteArray.toList_eq ..
theorem Z56 (s:ByteArray):(L s).length=s.size:=by simp[L]
theorem bt_L {s:ByteArray} {i:Nat} {c:UInt8} (h:(L s)[i]? = some c):bt s (i:Int)=(c.toNat:Int):=by
 have:s.data[i]? = some c:=by rw[← h];simp[L]
 simp[bt,this]
theorem L_append (a b:ByteArray):L (a++b)=L a++L b:=by simp[L,ByteArray.data_append]
theorem ext_L {a b:ByteArray} (h:L a=L b):a=b:=by
 obtain⟨⟨a⟩⟩:=a;obtain⟨⟨b⟩⟩:=b;simp[L] at h;rw[h]
theorem Z8c (s:ByteArray) (i j:Nat):L (s.extract i j)=((L s).drop i).take (j-i):=by
 simp only[L,ByteArray.data_extract,Array.toList_extract,List.extract_eq_take_drop]
structure Z9y (w:World) (I:Nat→Prop) (κ:Nat→Option KI) (sz:Nat) (gs:List (List AVal)) (vs:List Value):Prop where
 len:vs.length=gs.length*sz
 el:∀ i (h:i<gs.length),(gs[i]).length=sz
 at_:∀ i (h:i<gs.length) j (h':j<(gs[i]).length),∃ v,vs[i*sz+j]? = some v∧Rep w I κ ((gs[i])[j]) v
theorem Z9y.nil (w:World) (I:Nat→Prop) (κ:Nat→Option KI) (sz:Nat):Z9y w I κ sz [] []:=⟨by simp,fun i h=>absurd h (Nat.not_lt_zero _),fun i h=>absurd h (Nat.not_lt_zero _)⟩
theorem Z9y.append {w:World} {I:Nat→Prop} {κ:Nat→Option KI} {sz:Nat} {es fs:List (List AVal)} {us vs:List Value} (h:Z9y w I κ sz es us) (h':Z9y w I κ sz fs vs):Z9y w I κ sz (es++fs) (us++vs):=by
 refine⟨by simp[h.len,h'.len,Nat.add_mul],fun i hi => ?_,fun i hi j hj => ?_⟩
 ·by_cases hlt:i<es.length
  ·rw[List.getElem_append_left hlt];exact h.el i hlt
  ·rw[List.getElem_append_right (by omega)];exact h'.el _ _
 ·by_cases hlt:i<es.length
  ·simp only[List.getElem_append_left hlt] at hj ⊢
   obtain⟨v,e,r⟩:=h.at_ i hlt j hj;have hjs:j<sz:=by rw[← h.el i hlt];exact hj
   exact⟨v,by rw[List.getElem?_append_left (by rw[h.len];exact Z6c hlt hjs)];exact e,r⟩
  ·simp only[List.getElem_append_right (Nat.le_of_not_lt hlt)] at hj ⊢
   simp only[List.length_append] at hi;obtain⟨v,e,r⟩:=h'.at_ (i-es.length) (by omega) j hj;refine⟨v,?_,r⟩;rw[List.getElem?_append_right (by rw[h.len];have:=Nat.mul_le_mul_right sz (Nat.le_of_not_lt hlt);omega),h.len];rw[show i*sz+j-es.length*sz=(i-es.length)*sz+j from by rw[Nat.sub_mul];have:=Nat.mul_le_mul_right sz (Nat.le_of_not_lt hlt);omega];exact e
theorem Z9y.mono {w w':World} {I I':Nat→Prop} {κ κ':Nat→Option KI} {sz:Nat} {gs:List (List AVal)} {vs:List Value} (h:Z9y w I κ sz gs vs) (hI:∀ b,I b→I' b) (hw:∀ b,I b→w'.heap[b]? = w.heap[b]?) (hk:∀ k,Z7j k gs=true→κ' k=κ k):Z9y w' I' κ' sz gs vs :=
 ⟨h.len,h.el,fun i hi j hj=>let ⟨v,e,r⟩:=h.at_ i hi j hj;⟨v,e,r.mono hI hw (fun k hkk=>hk k (by
  cases e:Z7j k gs with
  | true=>rfl
  | false=>rw[Z6m (Zdw e i hi) j hj] at hkk;cases hkk))⟩⟩
theorem arow_flat {w:World} {I:Nat→Prop} {κ:Nat→Option KI} {ki:KI} {sz el:Nat} {gs:List (List AVal)} (h:ARow w I κ ki sz el gs) :
  ∃ arr:Array Value,w.heap[ki.b]? = some (.cells arr el (0,0))∧arr.size=ki.cap*sz∧ki.len=gs.length∧ki.sz=sz∧gs.length≤ki.cap∧Z9y w I κ sz gs (arr.toList.take (gs.length*sz)):=by
 obtain⟨h1,h2,h3,arr,h4,h5,h6⟩:=h;have hle:gs.length*sz≤arr.size:=by rw[h5];exact Nat.mul_le_mul_right _ h3
 refine⟨arr,h4,h5,h2,h1,h3,by simp;omega,fun i hi=>(h6 i hi).1,fun i hi j hj => ?_⟩;obtain⟨v,e,r⟩:=(h6 i hi).2 j hj;have hjs:j<sz:=by rw[← (h6 i hi).1];exact hj
 refine⟨v,?_,r⟩;rw[List.getElem?_take,if_pos (Z6c hi hjs)];simpa using e
theorem arow_of {w:World} {I:Nat→Prop} {κ:Nat→Option KI} {ki:KI} {sz el:Nat} {gs:List (List AVal)} {vs rest:List Value} (hb:w.heap[ki.b]? = some (.cells (vs++rest).toArray el (0,0))) (h:Z9y w I κ sz gs vs) (hsz:ki.sz=sz) (hlen:ki.len=gs.length) (hcap:gs.length≤ki.cap) (hall:(vs++rest).length=ki.cap*sz):ARow w I κ ki sz el gs:=by
 refine⟨hsz,hlen,hcap,(vs++rest).toArray,hb,by simpa using hall,fun i hi=>⟨h.el i hi,fun j hj => ?_⟩⟩;obtain⟨v,e,r⟩:=h.at_ i hi j hj;have hjs:j<sz:=by rw[← h.el i hi];exact hj
 refine⟨v,?_,r⟩;simp only[List.getElem?_toArray];rw[List.getElem?_append_left (by rw[h.len];exact Z6c hi hjs)];exact e
theorem arow_row {w:World} {I:Nat→Prop} {κ:Nat→Option KI} {ki:KI} {sz el:Nat} {es:List (List Im)} (h:ORep w I κ ki (.row sz el es)):ARow w I κ ki sz el (imL es):=by
 obtain⟨h1,h2,h3,arr,h4,h5,h6⟩:=h;refine⟨h1,by rw[Z33];exact h2,by rw[Z33];exact h3,arr,h4,h5,fun i hi => ?_⟩;rw[Z33] at hi;obtain⟨g1,g2⟩:=h6 i hi;simp only[imL_get,List.length_map];refine⟨g1,fun j hj => ?_⟩;obtain⟨v,e,r⟩:=g2 j hj;simp only[List.getElem_map];exact⟨v,e,.im r⟩
def Zb0:List (List AVal)→Bool
 | []=>true
 | g::r=>Z1s g&&Zb0 r
theorem Zcf:∀ {l:List (List AVal)},Zb0 l=true→∀ j (h:j<l.length),Z1s (l[j])=true
 | [],_,j,h=>by simp at h
 | x::r,he,j,h=>by
  simp only[Zb0,Bool.and_eq_true] at he;cases j with
  | zero=>exact he.1
  | succ j=>exact Zcf he.2 j (by simpa using h)
theorem flatA_leaf {w:World} {I:Nat→Prop} {κ:Nat→Option KI} {sz:Nat} {gs:List (List AVal)} {vs:List Value} (h:Z9y w I κ sz gs vs) (hl:Zb0 gs=true):∀ v∈vs,Zbt v=true:=by
 intro v hv;obtain⟨m,hm,rfl⟩:=List.mem_iff_getElem.1 hv;have hlen:=h.len;have hsz0:0<sz:=by
  rcases Nat.eq_zero_or_pos sz with h0 | h0
  ·rw[h0,Nat.mul_zero] at hlen;omega
  ·exact h0
 have hi:m / sz<gs.length:=by rw[Nat.div_lt_iff_lt_mul hsz0];omega
 have hj:m % sz<(gs[m / sz]).length:=by rw[h.el];exact Nat.mod_lt _ hsz0
 obtain⟨v,e,r⟩:=h.at_ _ hi _ hj;rw[show m / sz*sz+m % sz=m from by rw[Nat.mul_comm];exact Nat.div_add_mod m sz,List.getElem?_eq_getElem hm] at e;rw[Option.some.inj e];exact Zd1 r (Z9o (Zcf hl _ hi) _ hj)
theorem Inv.drew {Γ:Ctx} {κ:Nat→Option KI} {I:Nat→Prop} {s:Z1} {w:World} (h:Inv Γ κ I s w):Inv Γ κ I s w.drew:=by
 refine⟨fun k o hk => ?_,h.inj,h.disj,h.bound,⟨h.keep.os,h.keep.tape,h.keep.output,h.keep.size,h.keep.block⟩,h.ikeep,h.fromI,h.fromO,h.fix⟩;have:=h.objs k o hk;unfold OAt at this ⊢;split
 ·rename_i e';rw[e'] at this;exact this
 ·rename_i ki' e';rw[e'] at this;exact this.mono (fun _ h=>h) (fun _ _=>rfl) rfl (fun _ _=>rfl)
theorem appendA_core {P:Program} {Γ:Ctx} {κ:Nat→Option KI} {I:Nat→Prop} {s:Z1} {w:World} {st e:TypeId} {ts:Array TypeId} {sz by_:Nat} {old new:List (List AVal)} {sv xv:Value} {news:List Value} {k2:Nat} {kold:List Nat} {ty:TypeId} {o':MObj} (hinv:Inv Γ κ I s w) (hf:s.fresh k2) (hts:ts[0]? = some st) (hts2:Za3 P ts=true) (hel:P.underlying st=some (.slice e)) (hby:Z7g P e=some (by_,sz)) (hb0:0<by_) (hold:(∃ base,sv = .slice base 0 0∧old=[])∨∃ k o ki,kold=[k]∧s.obj k=some o∧κ k=some ki∧ARow w I κ ki sz e old∧sv = .slice (some ⟨ki.b,0,none⟩) ki.len ki.cap) (hk1:Z7j k2 old=false) (hk3:Z7j k2 new=false) (hne:new≠[]) (hxlen:∀ w2:World,w2.heap=w.heap→(Builtin.lenOf xv).run P w2 = .ok new.length w2) (hxcells:∀ w2:World,w2.heap=w.heap→(Builtin.firstCells sz new.length xv).run P w2 = .ok news.toArray w2) (hfl:Z9y w I κ sz new news) (hleaf:∀ v∈news,Zbt v=true) (hroom:(old.length+new.length)*by_≤140737488355328) (ho':∀ w κ ki,ARow w I κ ki sz e (old++new)→ORep w I κ ki o') :
  ∃ v w' κ',(Builtin.append_ ts ty #[sv,xv]).run P w = .ok v w'∧Inv Γ κ' I (s.objput ((k2,some o')::kold.map (·,none))) w'∧(∀ b,I b→w'.heap[b]? = w.heap[b]?) ∧
   (∀ x k,(s.get x).has k=true→κ' k=κ k)∧Rep w' I κ' (.own k2) v:=by
 have hk0:∀ p∈kold.map (fun k=>(k,(none:Option MObj))),p.2=none:=by
  intro p hp;obtain⟨k,_,rfl⟩:=List.mem_map.1 hp;rfl
 have hinvk:=hinv.kill _ hk0;have hfk:=Zbw hf hk0;have hpos:0<new.length:=List.length_pos_iff.2 hne;have hset:∀ (gs:List (List AVal)) (x:Option KI),Z7j k2 gs=false→∀ k,Z7j k gs=true→setK κ k2 x k=κ k:=fun gs x h k hk=>Z96 _ _ _ (by rintro rfl;rw[h] at hk;cases hk)
 have grown:∀ (base:Option Addr) (n c:Nat) (olds:List Value),sv = .slice base n c→n=old.length→c<n+new.length→(∀ w2:World,w2.heap=w.heap→(Builtin.firstCells sz n (.slice base n c)).run P w2 = .ok olds.toArray w2) →
   Z9y w I κ sz old olds→∃ v w' κ',(Builtin.append_ ts ty #[sv,xv]).run P w = .ok v w'∧Inv Γ κ' I (s.objput ((k2,some o')::kold.map (·,none))) w'∧(∀ b,I b→w'.heap[b]? = w.heap[b]?) ∧
   (∀ x k,(s.get x).has k=true→κ' k=κ k)∧Rep w' I κ' (.own k2) v:=by
  intro base n c olds hsv hn hgrow ho hfo;subst hn;obtain⟨cap,rest,hcap,hrest,hrun⟩:=Z8w (ty:=ty) hts hts2 hel hby hb0 (hxlen w rfl) (hxcells w.drew rfl) (ho w.drew rfl) hgrow hroom
  let ki:KI:=⟨w.heap.size,cap,sz,old.length+new.length⟩
  have hdrew:=hinvk.drew;have hfl2:Z9y (World.alloc' w.drew (.cells (olds++news++rest).toArray e)) I (setK κ k2 (some ki)) sz (old++new) (olds++news) :=
   (hfo.append hfl).mono (fun _ h=>h) (fun b hb=>Z5m _ _ _ (hdrew.bound b hb)) (hset _ _ (by rw[Z7q,hk1,hk3];rfl))
  have hO:ORep (World.alloc' w.drew (.cells (olds++news++rest).toArray e)) I (setK κ k2 (some ki)) ki o' :=
   ho' _ _ _ (arow_of (Z67 w.drew _) hfl2 rfl (by simp[ki]) (by simpa[ki] using hcap) (by
    rw[List.length_append,hfl2.len,hrest,← Nat.add_mul];simp only[ki,List.length_append];congr 1;omega))
  obtain⟨g1,g2,g3⟩:=hdrew.alloc hfk (ki:=ki) rfl hO;refine⟨_,_,setK κ k2 (some ki),by rw[hsv];exact hrun,g1,g2,fun x k hx=>g3 x k hx,?_⟩;exact Rep.own (k:=k2) (ki:=ki) (Z1u ..)
 rcases hold with ⟨base,rfl,rfl⟩ | ⟨k,o,ki,rfl,hobj,eκ,hrow,rfl⟩
 ·exact grown base 0 0 [] rfl rfl (by omega) (fun w2 _=>by cases base<;>simp[Builtin.firstCells,loadCells,loadCellsFrom]) (.nil ..)
 ·obtain⟨arr,h1,h2,h3,h4,h5,hfo⟩:=arow_flat hrow
  have hle:old.length*sz≤arr.size:=by rw[h2];exact Nat.mul_le_mul_right _ h5
  by_cases hfit:old.length+new.length≤ki.cap
  ·let ki':KI:=⟨ki.b,ki.cap,sz,old.length+new.length⟩
   have hsz2:old.length*sz+news.length≤arr.size:=by rw[h2,hfl.len,← Nat.add_mul];exact Nat.mul_le_mul_right _ hfit
   have hst:=Z79 (P:=P) news w arr (old.length*sz) h1 hsz2 hleaf;have hbl:ki.b<w.heap.size:=(Array.getElem?_eq_some_iff.1 h1).1;have hneb:∀ b,I b→(World.setBlock w ki.b (.cells (Z2v arr (old.length*sz) news) e (0,0))).heap[b]? = w.heap[b]? := fun b hb'=>by
    rw[Z1l _ _ _ _ hbl,if_neg];rintro rfl;exact hinv.disj k _ ki hobj eκ hb'
   have hflall:=(hfo.append hfl).mono (I':=I) (κ':=setK κ k2 (some ki')) (fun _ h=>h) hneb (hset _ _ (by rw[Z7q,hk1,hk3];rfl));have hO':ORep (World.setBlock w ki.b (.cells (Z2v arr (old.length*sz) news) e (0,0))) I (setK κ k2 (some ki')) ki' o':=by
    refine ho' _ _ _ ⟨rfl,by simp[ki'],by simpa[ki'] using hfit,Z2v arr (old.length*sz) news,by rw[Z1l _ _ _ _ hbl,if_pos rfl],by rw[Z4o];exact h2,fun i hi=>⟨hflall.el i hi,fun j hj => ?_⟩⟩;obtain⟨v,e',r⟩:=hflall.at_ i hi j hj;have hjs:j<sz:=by rw[← hflall.el i hi];exact hj
    refine⟨v,?_,r⟩;rw[Z43 _ _ _ _ hsz2];have hlt:=Z6c hi hjs;rw[List.length_append,Nat.add_mul] at hlt;by_cases hin:old.length*sz≤i*sz+j
    ·rw[if_pos ⟨hin,by rw[hfl.len];exact hlt⟩]
     rw[List.getElem?_append_right (by simp;omega)] at e';rw[← e'];congr 1;simp;omega
    ·rw[if_neg (by omega)]
     rw[List.getElem?_append_left (by simp;omega),List.getElem?_take,if_pos (by omega)] at e';simpa using e'
   obtain⟨g1,g2,g3⟩:=hinv.move hobj eκ hf (ki':=ki') rfl hO';refine⟨.slice (some ⟨ki.b,0,none⟩) (ki.len+new.length) ki.cap,_,setK κ k2 (some ki'),?_,g1,g2,g3,?_⟩
   ·exact Z6k hts hts2 hel hby (hxlen w rfl) (hxcells w rfl) (by omega) (by simp only[Zar,Z5o,Nat.zero_add,h3];exact hst)
   ·have:=Rep.own (w:=World.setBlock w ki.b (.cells (Z2v     arr (old.length*sz) news) e (0,0))) (I:=I) (κ:=setK κ k2 (some ki')) (k:=k2) (ki:=ki') (Z1u       ..)
    rw[h3];exact this
  ·refine grown (some ⟨ki.b,0,none⟩) ki.len ki.cap (arr.toList.take (old.length*sz)) rfl h3 (by omega) (fun w2 hw2 => ?_) hfo
   simp only[Builtin.firstCells];rw[Z59 (u:=fun m=>arr[m]?.getD undef) (fun m hm=>by
    have hm2:m<arr.size:=by rw[h3] at hm;omega
    have:w2.cell? ⟨ki.b,0+m,none⟩=w.cell? ⟨ki.b,0+m,none⟩:=by unfold World.cell?;rw[hw2]
    rw[this,Z7v h1,Nat.zero_add];simp[hm2])]
   congr 2;apply List.ext_getElem?;intro m;rw[List.getElem?_map,List.getElem?_take,h3];by_cases hm:m<old.length*sz
   ·rw[List.getElem?_range hm,if_pos hm]
    have:m<arr.size:=by omega
    simp[this]
   ·rw[if_neg hm,List.getElem?_eq_none (by rw[List.length_range];omega)];rfl
def rowA:MObj→Option (Nat×Nat×List (List Im)×List (List AVal))
 | .row sz el es=>some (sz,el,es,[])
 | .arow sz el es fs=>some (sz,el,es,fs)
 | _=>none
theorem rowA_ok {w:World} {I:Nat→Prop} {κ:Nat→Option KI} {ki:KI} {o:MObj} {sz el:Nat} {es:List (List Im)} {fs:List (List AVal)} (h:rowA o=some (sz,el,es,fs)) (ho:ORep w I κ ki o):ARow w I κ ki sz el (imL es++fs):=by
 unfold rowA at h;split at h
 ·simp at h;obtain⟨rfl,rfl,rfl,rfl⟩:=h;rw[List.append_nil];exact arow_row ho
 ·simp at h;obtain⟨rfl,rfl,rfl,rfl⟩:=h;exact ho
 ·simp at h
theorem rowA_none {w:World} {I:Nat→Prop} {κ:Nat→Option KI} {k:Nat} {o:MObj} {sz el:Nat} {es:List (List Im)} {fs:List (List AVal)} (h:rowA o=some (sz,el,es,fs)) (ho:OAt w I κ k o) (e:κ k=none):es=[]∧fs=[]:=by
 simp only[OAt,e] at ho;obtain⟨_,_,rfl⟩:=ho;simp[rowA] at h;exact⟨h.2.2.1,h.2.2.2⟩
theorem rowA_has {k:Nat} {o:MObj} {sz el:Nat} {es:List (List Im)} {fs:List (List AVal)} (h:rowA o=some (sz,el,es,fs)) (ho:o.has k=false):Z7j k (imL es++fs)=false:=by
 rw[Z7q,imL_has];unfold rowA at h;split at h
 ·simp at h;obtain⟨rfl,rfl,rfl,rfl⟩:=h;rfl
 ·simp at h;obtain⟨rfl,rfl,rfl,rfl⟩:=h;exact ho
 ·simp at h
theorem rowA_at {w:World} {I:Nat→Prop} {κ:Nat→Option KI} {k:Nat} {o:MObj} {sz el:Nat} {es:List (List Im)} {fs:List (List AVal)} {v:Value} (h:rowA o=some (sz,el,es,fs)) (ho:OAt w I κ k o) (hv:Rep w I κ (.own k) v) :
  (∃ base,v = .slice base 0 0∧es=[]∧fs=[])∨∃ ki,κ k=some ki∧ARow w I κ ki sz el (imL es++fs)∧v = .slice (some ⟨ki.b,0,none⟩) ki.len ki.cap:=by
 cases hv with
 | own0 base e=>obtain⟨h1,h2⟩:=rowA_none h ho e;exact .inl ⟨base,rfl,h1,h2⟩
 | @own _ ki e=>simp only[OAt,e] at ho;exact .inr ⟨ki,e,rowA_ok h ho,rfl⟩
theorem arow_cells {P:Program} {w:World} {I:Nat→Prop} {κ:Nat→Option KI} {ki:KI} {sz el:Nat} {gs:List (List AVal)} (h:ARow w I κ ki sz el gs) :
  ∃ news,Z9y w I κ sz gs news∧ki.len=gs.length∧∀ w2:World,w2.heap=w.heap→(Builtin.firstCells sz gs.length (.slice (some ⟨ki.b,0,none⟩) ki.len ki.cap)).run P w2 = .ok news.toArray w2:=by
 obtain⟨arr,h1,h2,h3,h4,h5,hfl⟩:=arow_flat h;refine⟨_,hfl,h3,fun w2 hw2 => ?_⟩;have hle:gs.length*sz≤arr.size:=by rw[h2];exact Nat.mul_le_mul_right _ h5
 simp only[Builtin.firstCells];rw[Z59 (u:=fun m=>arr[m]?.getD undef) (fun m hm=>by
  have hm2:m<arr.size:=by omega
  have:w2.cell? ⟨ki.b,0+m,none⟩=w.cell? ⟨ki.b,0+m,none⟩:=by unfold World.cell?;rw[hw2]
  rw[this,Z7v h1,Nat.zero_add];simp[hm2])]
 congr 2;apply List.ext_getElem?;intro m;rw[List.getElem?_map,List.getElem?_take];by_cases hm:m<gs.length*sz
 ·rw[List.getElem?_range hm,if_pos hm]
  have:m<arr.size:=by omega
  simp[this]
 ·rw[if_neg hm,List.getElem?_eq_none (by rw[List.length_range];omega)];rfl
def xAppT (k2:Nat):Ext where
 f P o s:=match o.op with
  | .call { callee:=.builtin .append,args:=⟨[x,y]⟩,argTypes:=ts }=>match ts[0]? with
   | some st=>match Z7k   P st,s.eval y with
    | some (e,sz),.own ky=>match Z7g    P e,s.obj ky with
     | some (by_,sz2),some (.arow sz3 e3 [] (n::ns))=>match Nat.beq sz2 sz&&Nat.beq sz3 sz&&Nat.blt 0 by_&&Za3    P ts&&Zb0      (n::ns) with
      | true=>match s.eval x with
       | .none0=>some ⟨[ky],[k2],.own k2,[(k2,some (.arow sz e [] (n::ns)))],[(n::ns).length*by_≤140737488355328]⟩
       | .own k=>match (s.obj k).bind rowA with
        | some (sz',e',es,fs)=>match Nat.beq sz' sz&&Nat.beq e' e with
         | true=>some ⟨[k,ky],[k2],.own k2,[(k2,some (.arow sz e es (fs++n::ns))),(k,none)],[(es.length+fs.length+(n::ns).length)*by_≤140737488355328]⟩
         | false=>none
        | none=>none
       | _=>none
      | false=>none
     | _,_=>none
    | _,_=>none
   | none=>none
  | _=>none
 ok P o s e he hp:=by
  split at he
  ·rename_i x y ts ho
   split at he
   ·rename_i st hts
    split at he
    ·rename_i el sz ky hel hy
     obtain⟨hu,_⟩:=Z4h hel;split at he
     ·rename_i by_ sz2 sz3 e3 n ns hby hky
      split at he
      ·rename_i hb
       simp only[Bool.and_eq_true,Nat.blt_eq] at hb;obtain⟨⟨⟨⟨b1,b2⟩,b3⟩,b4⟩,b5⟩:=hb;obtain rfl:=Nat.eq_of_beq_eq_true b1;obtain rfl:=Nat.eq_of_beq_eq_true b2;have main:∀ (keys kold:List Nat) (es:List (List Im)) (fs:List (List AVal)),ky∈keys→(∀ k∈kold,k∈keys) →
         ((s.eval x = .none0∧es=[]∧fs=[]∧kold=[])∨∃ k q,s.eval x = .own k∧kold=[k]∧s.obj k=some q∧rowA q=some (sz3,el,es,fs)) →
         (es.length+fs.length+(n::ns).length)*by_≤140737488355328→OpOK P o (mkSp s o keys [k2] (.own k2) ((k2,some (.arow sz3 el es (fs++n::ns)))::kold.map (·,none))):=by
        intro keys kold es fs hkeys hko hx hroom;refine .of fun Γ κ I s2 a w hP hr hn hf => ?_;have hfk:=hf k2 (by simp[mkSp]);have g1:=opd hr hn x (by simp[ho,Op.operands,Call.operands]) rfl;have g2:=opd hr hn y (by simp[ho,Op.operands,Call.operands]) hy;have hky2:=(Z1r hn ky hkeys).trans hky;have hOy:=hr.inv.objs ky _ hky2;have hyr:rowA (.arow sz3 e3 [] (n::ns))=some (sz3,e3,[],n::ns):=rfl;obtain⟨kiy,eκy,hrowy,hyv⟩:∃ ki,κ ky=some ki∧ARow w I κ ki sz3 e3 (n::ns)∧a.eval y = .slice (some ⟨ki.b,0,none⟩) ki.len ki.cap:=by
         rcases rowA_at hyr hOy g2 with ⟨_,_,_,h⟩ | ⟨ki,h1,h2,h3⟩
         ·simp at h
         ·exact⟨ki,h1,h2,h3⟩
        obtain⟨news,hfl,hlen,hcells⟩:=arow_cells (P:=P) hrowy;have hk3:Z7j k2 (n::ns)=false:=hfk.2.1 ky _ hky2;obtain⟨v,w',κ',h1,h2,h3,h4,h5⟩:=appendA_core (P:=P) (ts:=ts) (ty:=o.type) (sv:=a.eval x) (xv:=a.eval y) (news:=news) (kold:=kold) (old:=imL es++fs) (new:=n::ns) (o':=.arow sz3 el es (fs++n::ns)) (k2:=k2) hr.inv hfk hts b4 hu hby b3 (by
         rcases hx with ⟨hx,rfl,rfl,rfl⟩ | ⟨k,q,hx,rfl,hq,hrq⟩
         ·rw[hx] at g1
          obtain⟨base,e⟩:=Z7a g1;exact .inl ⟨base,e,rfl⟩
         ·rw[hx] at g1
          have hq2:=(Z1r hn k (hko k (by simp))).trans hq;rcases rowA_at hrq (hr.inv.objs k _ hq2) g1 with ⟨base,h1,rfl,rfl⟩ | ⟨ki,h1,h2,h3⟩
          ·exact .inl ⟨base,h1,rfl⟩
          ·exact .inr ⟨k,q,ki,rfl,hq2,h1,h2,h3⟩) (by
         rcases hx with ⟨hx,rfl,rfl,rfl⟩ | ⟨k,q,hx,rfl,hq,hrq⟩
         ·rfl
         ·exact rowA_has hrq (hfk.2.1 k _ ((Z1r hn k (hko k (by simp))).trans hq))) hk3 (by simp) (fun w2 _=>by rw[hyv,hlen];simp[Builtin.lenOf]) (by rw[hyv];exact hcells) hfl (flatA_leaf hfl b5) (by rw[List.length_append,Z33];exact hroom)
         (fun w κ ki h=>by show ARow w I κ ki sz3 el (imL es++(fs++n::ns));rw[← List.append_assoc];exact h)
        exact⟨v,_,w',κ',I,.inl rfl,by simp[execOp,ho,resolve,invoke,builtin,h1],h2,fun _ h=>h,h3,h4,h5⟩
       split at he
       ·rename_i hx
        obtain rfl:=Option.some.inj he;obtain⟨h1,_⟩:=hp;exact main [ky] [] [] [] (by simp) (by simp) (.inl ⟨hx,rfl,rfl,rfl⟩) (by simpa using h1)
       ·rename_i k hx
        split at he
        ·rename_i sz' e' es fs hk
         split at he
         ·rename_i hb2
          simp only[Bool.and_eq_true] at hb2;obtain⟨q1,q2⟩:=hb2;obtain rfl:=Nat.eq_of_beq_eq_true q1;obtain rfl:=Nat.eq_of_beq_eq_true q2;obtain rfl:=Option.some.inj he;obtain⟨h1,_⟩:=hp;obtain⟨q,hq,hrq⟩:=Option.bind_eq_some_iff.1 hk;exact main [k,ky] [k] es fs (by simp) (by simp) (.inr ⟨k,q,hx,rfl,hq,hrq⟩) h1
         ·simp at he
        ·simp at he
       ·simp at he
      ·simp at he
     ·simp at he
    ·simp at he
   ·simp at he
  ·simp at he
def xLenT:Ext where
 f P o s:=match o.op with
  | .call { callee:=.builtin .len,args:=⟨[x]⟩,argTypes:=ts }=>match ts[0]? with
   | some t=>match P.underlying t,s.eval x with
    | some (.slice _),.own k=>match s.obj k with
     | some (.arow sz el es fs)=>some ⟨[k],[],.im (.sc (.int .i64 ((es.length+fs.length:Nat):Int))),[],[]⟩
     | _=>none
    | _,_=>none
   | none=>none
  | _=>none
 ok P o s e he hp:=by
  split at he
  ·rename_i x ts ho
   split at he
   ·rename_i t hts
    split at he
    ·rename_i el k hu hx
     split at he
     ·rename_i sz el es fs hk
      obtain rfl:=Option.some.inj he;refine .quiet rfl fun Γ κ I s2 a w hP hr hn => ?_;have g1:=opd hr hn x (by simp[ho,Op.operands,Call.operands]) hx;have hO:=hr.inv.objs k _ ((Z1r hn k (by simp)).trans hk);have hkr:rowA (.arow sz el es fs)=some (sz,el,es,fs):=rfl;have:∃ base c,a.eval x = .slice base (es.length+fs.length) c:=by
       rcases rowA_at hkr hO g1 with ⟨base,h1,rfl,rfl⟩ | ⟨ki,h1,h2,h3⟩
       ·exact⟨base,0,h1⟩
       ·obtain⟨_,h4,_⟩:=h2
        rw[List.length_append,Z33] at h4;exact⟨_,_,h4 ▸ h3⟩
      obtain⟨base,c,e⟩:=this;refine⟨.int .i64 ((es.length+fs.length:Nat):Int),?_,.im (.sc _)⟩;have:=Z8g (P:=P) hu o.type base (es.length+fs.length) c w ts hts;simp[execOp,ho,resolve,invoke,builtin,e,this]
     ·simp at he
    ·simp at he
   ·simp at he
  ·simp at he
def Z8y (i:Nat):Ext where
 f P o s:=match o.op with
  | .indexAddr t x ix=>match Z7k   P t,s.eval x,s.eval ix with
   | some (e,sz),.own k,.im (.sc (.int _ n))=>match s.obj k with
    | some (.arow sz' el es fs)=>match Nat.beq sz' sz&&Nat.blt i fs.length with
     | true=>some ⟨[k],[],.ptr k (es.length+i) 0,[],[n=((es.length+i:Nat):Int)]⟩
     | false=>none
    | _=>none
   | _,_,_=>none
  | _=>none
 ok P o s e he hp:=by
  split at he
  ·rename_i t x ix ho
   split at he
   ·rename_i el sz k kk n hel hx hi
    split at he
    ·rename_i sz' el' es fs hk
     split at he
     ·rename_i hb
      simp only[Bool.and_eq_true,Nat.blt_eq] at hb;obtain⟨b1,b2⟩:=hb;obtain rfl:=Nat.eq_of_beq_eq_true b1;obtain rfl:=Option.some.inj he;obtain⟨rfl,_⟩:=hp;refine .quiet rfl fun Γ κ I s2 a w hP hr hn => ?_;have g1:=opd hr hn x (by simp[ho,Op.operands]) hx;have g2:=(opd hr hn ix (by simp[ho,Op.operands]) hi).sc_inv;have hO:=hr.inv.objs k _ ((Z1r hn k (by simp)).trans hk);have hkr:rowA (.arow sz' el' es fs)=some (sz',el',es,fs):=rfl;rcases rowA_at hkr hO g1 with ⟨base,h1,rfl,rfl⟩ | ⟨ki,h1,h2,h3⟩
      ·simp at b2
      ·obtain⟨c1,c2,c3,_⟩:=h2
       rw[List.length_append,Z33] at c2;have hrun:=Z8h (P:=P) hel (k:=kk) (i:=((es.length+i:Nat):Int)) (b:=ki.b) (off:=0) (len:=ki.len) (cap:=ki.cap) (by omega) (by omega) w;refine⟨.pointer (some ⟨ki.b,0+(es.length+i)*sz',none⟩),?_,?_⟩
       ·rw[Int.toNat_natCast] at hrun
        simp only[execOp,ho,h3,g2,Sem.run_bind,hrun,Result.andThen_ok,Sem.run_pure]
       ·have:=Rep.ptr (w:=w) (I:=I) (e:=es.length+i) (j:=0) h1
        rw[c1] at this;simpa[mkSp] using this
     ·simp at he
    ·simp at he
   ·simp at he
  ·simp at he
theorem place_arow {w:World} {I:Nat→Prop} {κ:Nat→Option KI} {k i j sz el:Nat} {es:List (List Im)} {fs:List (List AVal)} {c:List AVal} {v:Value} (h:Rep w I κ (.ptr k (es.length+i) j) v) (ho:OAt w I κ k (.arow sz el es fs)) (hc:fs[i]? = some c):Place w I κ v (c.drop j):=by
 cases h with
 | @ptr _ _ _ ki ek =>
  simp only[OAt,ek,ORep] at ho;obtain⟨h1,_,_,arr,h3,h4,h5⟩:=ho;obtain⟨he,rfl⟩:=List.getElem?_eq_some_iff.1 hc;have hlt:es.length+i<(imL es++fs).length:=by rw[List.length_append,Z33];omega
  obtain⟨hl,h6⟩:=h5 (es.length+i) hlt;have e1:(imL es++fs)[es.length+i]=fs[i]:=by rw[List.getElem_append_right (by rw[Z33];omega)];simp[Z33]
  refine⟨ki.b,(es.length+i)*ki.sz+j,rfl,fun m=>arr[(es.length+i)*sz+(j+m)]?.getD undef,fun m hm => ?_⟩;simp only[List.length_drop] at hm;obtain⟨v,g1,g2⟩:=h6 (j+m) (by rw[e1];omega);simp only[e1] at g2;rw[Z7v h3,List.getElem_drop,h1,Nat.add_assoc];exact⟨by simp[g1],by simpa[g1] using g2⟩
def Za0 (i:Nat):Ext where
 f P o s:=match o.op with
  | .load t x=>match aggP P t,s.eval x with
   | some (ag,sz),.ptr k e j=>match s.obj k with
    | some (.arow sz' el es fs)=>match fs[i]? with
     | some c=>match Z8m   ag sz (c.drop j) with
      | some r=>some ⟨[k],[],r,[],[e=es.length+i]⟩
      | none=>none
     | none=>none
    | _=>none
   | _,_=>none
  | _=>none
 ok P o s e he hp:=by
  split at he
  ·rename_i t x ho
   split at he
   ·rename_i ag sz k e' j ht hx
    split at he
    ·rename_i sz' el es fs hk
     split at he
     ·rename_i c hc
      split at he
      ·rename_i r hr
       obtain rfl:=Option.some.inj he;obtain⟨rfl,_⟩:=hp;refine .quiet rfl fun Γ κ I s2 a w hP hrel hn => ?_;have h1:=opd hrel hn x (by simp[ho,Op.operands]) hx;have h2:=Zcd hrel.inv ((Z1r hn k (by simp)).trans hk);obtain⟨v,hv,hrep⟩:=Z84 (place_arow h1 h2 hc) ht hr;exact⟨v,by simp[execOp,ho,hv],hrep⟩
      ·simp at he
     ·simp at he
    ·simp at he
   ·simp at he
  ·simp at he
def Za6 (i:Nat):Ext where
 f P o s:=match o.op with
  | .store t x y=>match aggP P t,s.eval x with
   | some (ag,sz),.ptr k e j=>match s.obj k with
    | some (.arow sz' el es fs)=>match fs[i]? with
     | some c=>match Z1s    (Z0k      (s.eval y))&&Nat.blt 0 sz&&Nat.beq (Z0k      (s.eval y)).length sz&&Nat.ble (j+sz) c.length with
      | true=>some ⟨[k],[],.top,[(k,some (.arow sz' el es (fs.set i (Z42 c j (Z0k (s.eval y))))))],[e=es.length+i]⟩
      | false=>none
     | none=>none
    | _=>none
   | _,_=>none
  | _=>none
 ok P o s e he hp:=by
  split at he
  ·rename_i t x y ho
   split at he
   ·rename_i ag sz k e' j ht hx
    split at he
    ·rename_i sz' el es fs hk
     split at he
     ·rename_i c hc
      split at he
      ·rename_i hb
       simp only[Bool.and_eq_true,Nat.blt_eq] at hb;obtain⟨⟨⟨hl,h0⟩,hsz⟩,hfit⟩:=hb;have hsz:=Nat.eq_of_beq_eq_true hsz;have hfit:=Nat.le_of_ble_eq_true hfit;obtain rfl:=Option.some.inj he;obtain⟨rfl,_⟩:=hp;refine .of fun Γ κ I s2 a w hP hrel hn hf => ?_;have h1:=opd hrel hn x (by simp[ho,Op.operands]) hx;have h2:=opd hrel hn y (by simp[ho,Op.operands]) rfl;have hk2:=(Z1r hn k (by simp)).trans hk;have h3:=Zcd hrel.inv hk2;obtain⟨v1,v2,v3⟩:=Z3u h2 hl;obtain⟨he,rfl⟩:=List.getElem?_eq_some_iff.1 hc;generalize hp:a.eval x=p at h1;cases h1 with
       | @ptr _ _ _ ki eκ =>
        simp only[OAt,eκ,ORep] at h3;obtain⟨c1,c2,c3,arr,c4,c5,c6⟩:=h3;have hlt:es.length+i<(imL es++fs).length:=by rw[List.length_append,Z33];omega
        have e1:(imL es++fs)[es.length+i]=fs[i]:=by rw[List.getElem_append_right (by rw[Z33];omega)];simp[Z33]
        obtain⟨hel,hcells⟩:=c6 (es.length+i) hlt;rw[e1] at hel;generalize hV:Z0k (s.eval y)=V at *;have hvl:(a.eval y).cells.toList.length=sz:=by rw[← hsz];simpa using v1
        generalize hE:es.length+i=E at *;have hbound:E*sz'+j+sz≤arr.size:=by
         have h4:(E+1)*sz'≤ki.cap*sz':=Nat.mul_le_mul_right _ (by omega);rw[Nat.add_mul] at h4;rw[c5];omega
        let ob:Obj:=.cells (Z2v arr (E*sz'+j) (a.eval y).cells.toList) el (0,0)
        have hrun:(execOp a.eval o).run P w = .ok .skip (World.setBlock w ki.b ob):=by
         have hst:=Z6i (P:=P) (b:=ki.b) (el:=el) (a.eval y).cells.toList w arr (E*sz'+j) 0 c4 (by rw[hvl];omega) v3 (by intro e;rw[e] at hvl;simp at hvl;omega);simp only[execOp,ho,hp,Instr.storeAt,Instr.sureAddr,pure_bind,storeVar,Sem.run_bind,Z1b ht,Result.andThen_ok];rw[if_neg (by simp at hvl;simp[hvl])];simp only[Nat.add_zero] at hst;simp[c1,hst,ob]
        have hb:ki.b<w.heap.size:=(Array.getElem?_eq_some_iff.1 c4).1;have hne:∀ b,I b→(World.setBlock w ki.b ob).heap[b]? = w.heap[b]? := fun b hb'=>by
         rw[Z1l _ _ _ _ hb,if_neg];rintro rfl;exact hrel.inv.disj k _ ki hk2 eκ hb'
        have e2:imL es++fs.set i (Z42 fs[i] j V)=(imL es++fs).set E (Z42 fs[i] j V):=by
         rw[List.set_append,if_neg (by rw[Z33];omega),Z33,show E-es.length=i from by omega]
        have hO:ORep (World.setBlock w ki.b ob) I κ ki (.arow sz' el es (fs.set i (Z42 fs[i] j V))):=by
         show ARow _ _ _ _ _ _ (imL es++fs.set i (Z42 fs[i] j V));rw[e2];have hsl:=Z58 (l:=fs[i]) (r:=V) (j:=j) (by omega);refine⟨c1,by simpa using c2,by simpa using c3,Z2v arr (E*sz'+j) (a.eval y).cells.toList,by rw[Z1l _ _ _ _ hb,if_pos rfl],by rw[Z4o];exact c5,fun q hq => ?_⟩;rw[List.length_set] at hq;by_cases hie:E=q
         ·subst hie
          simp only[List.getElem_set_self];refine⟨by rw[hsl];exact hel,fun m hm => ?_⟩;rw[hsl] at hm;rw[Z43 _ _ _ _ (by rw[hvl];exact hbound),Z9l (by omega)];by_cases hin:j≤m∧m<j+V.length
          ·rw[if_pos (by rw[hvl];omega),dif_pos hin]
           obtain⟨u,q1,q2⟩:=v2 (m-j) (by omega);refine⟨u,?_,q2.mono (fun _ h=>h) hne (fun _ _=>rfl)⟩;rw[show E*sz'+m-(E*sz'+j)=m-j from by omega];simpa using q1
          ·rw[if_neg (by rw[hvl];omega),dif_neg hin]
           obtain⟨u,q1,q2⟩:=hcells m (by rw[e1];exact hm);simp only[e1] at q2;exact⟨u,q1,q2.mono (fun _ h=>h) hne (fun _ _=>rfl)⟩
         ·rw[List.getElem_set_ne hie]
          obtain⟨g1,g2⟩:=c6 q hq;refine⟨g1,fun m hm => ?_⟩;obtain⟨u,q1,q2⟩:=g2 m hm;refine⟨u,?_,q2.mono (fun _ h=>h) hne (fun _ _=>rfl)⟩;rw[Z43 _ _ _ _ (by rw[hvl];exact hbound),if_neg]
          ·exact q1
          ·intro hin
           rw[hvl] at hin;have hm':m<sz':=by rw[← g1];exact hm
           rcases Nat.lt_or_gt_of_ne hie with hlt2 | hgt
           ·have:=Nat.mul_le_mul_right sz' (show E+1≤q from hlt2)
            rw[Nat.add_mul] at this;omega
           ·have:=Nat.mul_le_mul_right sz' (show q+1≤E from hgt)
            rw[Nat.add_mul] at this;omega
        obtain⟨g1,g2⟩:=hrel.inv.update hk2 eκ hO;exact⟨undef,.skip,_,κ,I,.inr ⟨rfl,rfl⟩,hrun,g1,fun _ h=>h,g2,fun _ _ _=>rfl,.top _⟩
      ·simp at he
     ·simp at he
    ·simp at he
   ·simp at he
  ·simp at he
def xOneT (k:Nat):Ext where
 f P o s:=match o.op with
  | .buildSlice t n parts=>match Z7k   P t,Z9k      0 parts.toList with
   | some (e,sz),some [x]=>match Z7g    P e with
    | some (by_,sz2)=>match Nat.beq sz2 sz&&Nat.beq n 1&&Nat.beq (Z0k      (s.eval x)).length sz&&Z1s    (Z0k      (s.eval x))&&Nat.ble sz (2 ^ 24)&&Nat.blt 0 sz with
     | true=>some ⟨[],[k],.own k,[(k,some (.arow sz e [] [Z0k (s.eval x)]))],[]⟩
     | false=>none
    | none=>none
   | _,_=>none
  | _=>none
 ok P o s e he hp:=by
  split at he
  ·rename_i t n parts ho
   split at he
   ·rename_i el sz x hel hxs
    split at he
    ·rename_i by_ sz2 hby
     split at he
     ·rename_i hb
      simp only[Bool.and_eq_true,Nat.blt_eq] at hb;obtain⟨⟨⟨⟨⟨b1,b2⟩,b3⟩,b4⟩,b5⟩,b6⟩:=hb;obtain rfl:=Nat.eq_of_beq_eq_true b1;obtain rfl:=Nat.eq_of_beq_eq_true b2;have b3:=Nat.eq_of_beq_eq_true b3;have b5:=Nat.le_of_ble_eq_true b5;obtain rfl:=Option.some.inj he;have hparts:parts=(Z3q 0 [x]).toArray:=by rw[← Zd8 hxs]
      refine .of fun Γ κ I s2 a w hP hr hn hf => ?_;have hfk:=hf k (by simp[mkSp]);have hx:=opd hr hn x (by simp[ho,Op.operands,hparts,Z3q]) rfl;obtain⟨v1,v2,v3⟩:=Z3u hx b4;obtain⟨hu,ag,hag⟩:=Z4h hel;obtain⟨i,z,hi,hz,hb1,hb2,hb3⟩:=Z89 hby;have hxs2:(a.eval x).cells.size=sz2:=by rw[v1,b3]
      obtain⟨arr,ha1,ha2⟩:=fill_all (sz:=sz2) [a.eval x] 0 ((Array.range (1*sz2)).map (z.cells[· % z.cells.size]!)) (by simpa using hxs2) (by simp);simp only[Nat.zero_mul,List.take_zero,List.nil_append,List.flatMap_cons,List.flatMap_nil,List.append_nil] at ha2;have hpm:(parts.map fun(x:Nat×Operand)=>match x with | (i,x)=>(i,a.eval x))=(Z3q 0 [a.eval x]).toArray:=by
       rw[hparts];simp[Z3q]
      have hrun:(execOp a.eval o).run P w = .ok (.value (.slice (some ⟨w.heap.size,0,none⟩) 1 1)) (World.alloc' w (.cells arr el)):=by
       simp only[execOp,ho,Instr.buildSlice];have h24:¬ (1*sz2>2 ^ 24):=by omega
       have h0:¬ (1*sz2=0):=by omega
       rw[hpm];simp only[Sem.run_bind,Zi hu,Result.andThen_ok,Z1b hag];rw[if_neg h24,if_neg h0];simp only[Sem.run_bind,zeroValue,Z28 hi,Result.andThen_ok,hz,pure_bind,Sem.run_pure,ha1];simp[newRow,newObj,Sem.run,World.alloc']
      let ki:KI:=⟨w.heap.size,1,sz2,1⟩
      have hk3:hasL k (Z0k (s.eval x))=false:=by
       have h1:=Zbx hfk x;rw[Z3h hn x (by simp[ho,Op.operands,hparts,Z3q])] at h1;rw[Z9a];exact h1
      have hO:ORep (World.alloc' w (.cells arr el)) I (setK κ k (some ki)) ki (.arow sz2 el [] [Z0k (s.eval x)]):=by
       refine arow_of (vs:=(a.eval x).cells.toList) (rest:=[]) ?_ ⟨by simp[hxs2,imL],fun i hi => ?_,fun i hi j hj => ?_⟩ rfl (by simp[ki,imL]) (by simp[ki,imL]) (by simp[hxs2,ki])
       ·rw[List.append_nil,← ha2];exact Z67 _ _
       ·have:i=0:=by simpa[imL] using hi
        subst this;exact b3
       ·have:i=0:=by simpa[imL] using hi
        subst this;obtain⟨u,e,r⟩:=v2 j hj;refine⟨u,by simpa using e,r.mono (fun _ h=>h) (fun b hb=>Z5m _ _ _ (hr.inv.bound b hb)) (fun q hq=>Z96 _ _ _ ?_)⟩;rintro rfl;rw[Z6m hk3 j hj] at hq;cases hq
      obtain⟨q1,q2,q3⟩:=hr.inv.alloc hfk (ki:=ki) rfl hO;exact⟨_,_,_,setK κ k (some ki),I,.inl rfl,hrun,q1,fun _ h=>h,q2,q3,Rep.own (k:=k) (ki:=ki) (Z1u ..)⟩
     ·simp at he
    ·simp at he
   ·simp at he
  ·simp at he
theorem cut_w0 {n:Nat} (h:(n+2)*24≤140737488355328):IntKind.i64.wrap ((n+1:Nat)-(1:Int))=((n+0:Nat):Int):=by
 rw[Z8 (by omega) (by omega)];omega
theorem cut_w1 {n:Nat} (h:(n+2)*24≤140737488355328):IntKind.i64.wrap (IntKind.i64.wrap ((n+1:Nat)+(1:Int))-(1:Int))=((n+1:Nat):Int):=by
 rw[Z8 (n:=((n+1:Nat):Int)+1) (by omega) (by omega),Z8 (by omega) (by omega)];omega
end Go.Pv
