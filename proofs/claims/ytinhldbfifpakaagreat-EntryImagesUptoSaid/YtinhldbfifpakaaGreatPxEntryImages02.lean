import Derived.Test.YtinhldbfifpakaaGreatPxEntryImages01
set_option linter.unusedVariables false
set_option linter.unusedSimpArgs false
namespace Go.Pv
def toIm:AVal→Option Im
 | .im x=>some x
 | .none0=>some (.row [])
 | _=>none
def toImL:List AVal→Option (List Im)
 | []=>some []
 | x::r=>match toIm x,toImL r with
  | some y,some l=>some (y::l)
  | _,_=>none
theorem Zdi {w:World} {I:Nat→Prop} {κ:Nat→Option KI} {x:AVal} {v:Value} {y:Im} (h:Rep w I κ x v) (hy:toIm x=some y):IRep w I y v:=by
 cases h<;>simp[toIm] at hy
 ·subst hy;assumption
 ·subst hy;exact .row0 _ _
theorem Zbe:∀ {l:List AVal} {r:List Im},toImL l=some r→r.length=l.length∧∀ j (h:j<l.length) (h':j<r.length),toIm (l[j])=some (r[j]):=by
 intro l
 induction l with
 | nil=>intro r h;obtain rfl:=Option.some.inj h;exact⟨rfl,fun j h=>absurd h (Nat.not_lt_zero _)⟩
 | cons x l ih =>
  intro r h;simp only[toImL] at h;split at h
  ·rename_i y l' h1 h2
   obtain rfl:=Option.some.inj h;obtain⟨g1,g2⟩:=ih h2;refine⟨by simp[g1],fun j hj hj' => ?_⟩;cases j with
   | zero=>exact h1
   | succ j=>exact g2 j (by simpa using hj) (by simpa using hj')
  ·simp at h
theorem foldl_set (vs:List Value):∀ (cells:Array Value) (off j:Nat),(vs.zipIdx j).foldl (fun cs (p:Value×Nat)=>cs.setIfInBounds (off+p.2) p.1) cells=Z3l cells (off+j) vs:=by
 induction vs with
 | nil=>intro cells off j;rfl
 | cons v r ih=>intro cells off j;rw[List.zipIdx_cons,List.foldl_cons,ih,Z3l];rfl
theorem fill_cons {place:Nat→Option (Nat×Nat)} {cells:Array Value} {i:Nat} {v:Value} {rest:List (Nat×Value)} {off size:Nat} (hp:place i=some (off,size)) (hs:v.cells.size=size) (hf:off+size≤cells.size) :
  Instr.fill place cells ((i,v)::rest)=Instr.fill place (Z3l cells off v.cells.toList) rest:=by
 simp only[Instr.fill,hp];rw[if_neg (by simp[hs];omega)];congr 1;have:=foldl_set v.cells.toList cells off 0;simp only[Nat.add_zero] at this;rw[← this,← Array.foldl_toList];simp[Array.toList_zipIdx]
theorem setMany_list (vs:List Value) (arr:Array Value) (off:Nat) (h:off+vs.length≤arr.size):(Z3l arr off vs).toList=Z5y arr.toList off vs:=by
 apply List.ext_getElem?;intro i;rw[Zdv (by simpa using h)];have:=Z4t vs arr off i h;rw[← Array.getElem?_toList] at this;rw[this];simp only[Array.getElem?_toList]
def Z4j {α:Type}:Nat→List α→List (Nat×α)
 | _,[]=>[]
 | m,x::r=>(m,x)::Z4j (m+1) r
theorem Zd2 {α β:Type} (f:α→β):∀ (l:List α) (m:Nat),(Z4j m l).map (fun p=>(p.1,f p.2))=Z4j m (l.map f)
 | [],_=>rfl
 | x::r,m=>by simp[Z4j,Zd2 f r]
theorem fill_all {sz:Nat}:∀ (vs:List Value) (m:Nat) (cells:Array Value),(∀ v∈vs,v.cells.size=sz)→cells.size=(m+vs.length)*sz →
  ∃ arr,Instr.fill (fun i=>some (i*sz,sz)) cells (Z4j m vs)=some arr∧arr.toList=cells.toList.take (m*sz)++vs.flatMap (·.cells.toList):=by
 intro vs
 induction vs with
 | nil=>intro m cells _ h;exact⟨cells,rfl,by simp at h;rw[← h,List.take_of_length_le (by simp)];simp⟩
 | cons v r ih =>
  intro m cells hs h;have hv:=hs v (by simp);simp only[List.length_cons,Nat.add_mul] at h;have hfit:m*sz+sz≤cells.size:=by omega
  have hfit':m*sz+v.cells.toList.length≤cells.size:=by simpa[hv] using hfit
  obtain⟨arr,h1,h2⟩:=ih (m+1) (Z3l cells (m*sz) v.cells.toList) (fun x hx=>hs x (by simp[hx])) (by rw[Z5i,h,Nat.add_mul,Nat.add_mul];omega);refine⟨arr,by rw[Z4j,fill_cons rfl hv hfit];exact h1,?_⟩;rw[h2,setMany_list _ _ _ hfit',List.flatMap_cons,← List.append_assoc];congr 1;have hvl:v.cells.toList.length=sz:=by simpa using hv
  have hcl:cells.toList.length=cells.size:=by simp
  unfold Z5y;rw[List.take_left' (by rw[List.length_append,List.length_take,hvl,hcl,Nat.add_mul];omega)]
def Zcf (s:Z5):List Operand→Option (List (List Im))
 | []=>some []
 | x::r=>match toImL (Z17      (s.eval x)),Zcf     s r with
  | some c,some l=>some (c::l)
  | _,_=>none
def Zfq (sz:Nat):List (List Im)→Bool
 | []=>true
 | c::r=>Nat.beq c.length sz&&Zfq sz r
def Z99 (s:Z5):List Operand→Bool
 | []=>true
 | x::r=>Z3i (Z17 (s.eval x))&&Z99 s r
theorem parts_flat {w:World} {I:Nat→Prop} {κ:Nat→Option KI} {s:Z5} {ρ:Operand→Value} {sz:Nat}:∀ {xs:List Operand} {cs:List (List Im)},(∀ x∈xs,Rep w I κ (s.eval x) (ρ x))→Zcf s xs=some cs→Zfq sz cs=true→Z99 s xs=true →
  (∀ v∈xs.map ρ,v.cells.size=sz)∧Flat w I sz cs ((xs.map ρ).flatMap (·.cells.toList))∧cs.length=xs.length:=by
 intro xs
 induction xs with
 | nil=>intro cs _ h _ _;obtain rfl:=Option.some.inj h;exact⟨fun v hv=>by simp at hv,⟨by simp,fun i h=>absurd h (Nat.not_lt_zero _),fun i h=>absurd h (Nat.not_lt_zero _)⟩,rfl⟩
 | cons x r ih =>
  intro cs hrep hp hl hv;simp only[Zcf] at hp;split at hp
  ·rename_i c l h1 h2
   obtain rfl:=Option.some.inj hp;simp only[Zfq,Z99,Bool.and_eq_true] at hl hv;obtain⟨g1,g2,g3⟩:=ih (fun y hy=>hrep y (by simp[hy])) h2 hl.2 hv.2;obtain⟨v1,v2,_⟩:=Z4n (hrep x (by simp)) hv.1;obtain⟨t1,t2⟩:=Zbe h1;have hc:c.length=sz:=Nat.eq_of_beq_eq_true hl.1;have hxs:(ρ x).cells.size=sz:=by rw[v1,← t1,hc]
   refine⟨fun v hv => ?_,?_,by simp[g3]⟩
   ·rw[List.map_cons] at hv
    rcases List.mem_cons.1 hv with rfl | h
    ·exact hxs
    ·exact g1 v h
   ·rw[List.map_cons,List.flatMap_cons]
    have hone:Flat w I sz [c] (ρ x).cells.toList:=by
     refine⟨by simp[hxs],fun i hi => ?_,fun i hi j hj => ?_⟩
     ·have:i=0:=by simpa using hi
      subst this;exact hc
     ·have:i=0:=by simpa using hi
      subst this;simp only[List.getElem_cons_zero] at hj ⊢;obtain⟨u,e,r⟩:=v2 j (by omega);exact⟨u,by simpa using e,Zdi r (t2 j (by omega) hj)⟩
    exact hone.append g2
  ·simp at hp
theorem Zbl {P:Program} {o:Oper} {s:Z5} {t e:TypeId} {n sz by_:Nat} {parts:Array (Nat×Operand)} (k:Nat) (xs:List Operand) (cs:List (List Im)) (ho:o.op = .buildSlice t n parts) (ht:Z94 P t=some (e,sz))
  (hby:Z8k P e=some (by_,sz)) (hparts:parts=(Z4j 0 xs).toArray) (hn:n=xs.length) (hcs:Zcf s xs=some cs) (hlen:Zfq sz cs=true) (hlv:Z99 s xs=true) (hsmall:Nat.ble (n*sz) (2 ^ 24)=true) :
  OpOK P o (mkSp s o [] [k] (.own k) [(k,some (.row sz e cs))]) :=
 .of fun Γ κ I s2 a w hP hr hneed hf=>by
  have hfk:=hf k (by simp[mkSp]);have hmem:∀ x∈xs,x∈o.op.operands.toList:=by
   intro x hx;have key:∀ (l:List Operand) (m:Nat),x∈l→x∈(Z4j m l).map (·.2):=by
    intro l
    induction l with
    | nil=>intro m h;simp at h
    | cons y r ih =>
     intro m h;rcases List.mem_cons.1 h with rfl | h
     ·simp[Z4j]
     ·simp only[Z4j,List.map_cons,List.mem_cons];exact .inr (ih (m+1) h)
   simpa[ho,Op.operands,hparts] using key xs 0 hx
  obtain⟨g1,g2,g3⟩:=parts_flat (sz:=sz) (ρ:=a.eval) (fun x hx=>opd hr hneed x (hmem x hx) rfl) hcs hlen hlv;obtain⟨hu,ag,hag⟩:=Z5t ht;obtain⟨i,z,hi,hz,hb1,hb2,hb3⟩:=Z97 hby;have hle:=Nat.le_of_ble_eq_true hsmall;obtain⟨zeros,hz0,hz1⟩:∃ zeros:Array Value,(n*sz=0→zeros = #[])∧(n*sz≠0→zeros=z.cells):=by
   by_cases h0:n*sz=0
   ·exact⟨#[],fun _=>rfl,fun h=>absurd h0 h⟩
   ·exact⟨z.cells,fun h=>absurd h h0,fun _=>rfl⟩
  have hzsize:((Array.range (n*sz)).map (zeros[· % zeros.size]!)).size=n*sz:=by simp
  obtain⟨arr,ha1,ha2⟩:=fill_all (xs.map a.eval) 0 ((Array.range (n*sz)).map (zeros[· % zeros.size]!)) g1 (by rw[hzsize,hn];simp);simp only[Nat.zero_mul,List.take_zero,List.nil_append] at ha2;have hpm:parts.map (fun(p:Nat×Operand)=>(p.1,a.eval p.2))=(Z4j 0 (xs.map a.eval)).toArray:=by
   rw[hparts,List.map_toArray,Zd2]
  have hrun:(execOp a.eval o).run P w = .ok (.value (.slice (some ⟨w.heap.size,0,none⟩) n n)) (World.alloc' w (.cells arr e)):=by
   simp only[execOp,ho,Instr.buildSlice];have h24:¬ (n*sz>2 ^ 24):=by omega
   have hpm':(parts.map fun(x:Nat×Operand)=>match x with | (i,x)=>(i,a.eval x))=(Z4j 0 (xs.map a.eval)).toArray:=hpm;rw[hpm'];simp only[Sem.run_bind,Zp hu,Result.andThen_ok,Z27 hag];rw[if_neg h24];by_cases h0:n*sz=0
   ·have hzz:=hz0 h0
    subst hzz;rw[if_pos h0];simp only[pure_bind,ha1];simp[newRow,newObj,Sem.run,World.alloc']
   ·have hzz:=hz1 h0
    subst hzz;rw[if_neg h0];simp only[Sem.run_bind,zeroValue,Z3a hi,Result.andThen_ok,hz,pure_bind,Sem.run_pure,ha1];simp[newRow,newObj,Sem.run,World.alloc']
  let ki:KI:=⟨w.heap.size,n,sz,n⟩
  have hO:ORep (World.alloc' w (.cells arr e)) I (setK κ k (some ki)) ki (.row sz e cs):=by
   refine ORep.ofFlat (vs:=(xs.map a.eval).flatMap (·.cells.toList)) (rest:=[]) ?_ (g2.mono (fun _ h=>h) (fun b hb=>Z6f _ _ _ (hr.inv.bound b hb))) rfl (by simp[ki,g3,hn]) (by simp[ki,g3,hn]) ?_
   ·rw[List.append_nil,← ha2];exact Z89 _ _
   ·rw[List.append_nil,g2.len,g3,← hn]
  obtain⟨q1,q2,q3⟩:=hr.inv.alloc hfk (ki:=ki) rfl hO;refine⟨_,_,_,setK κ k (some ki),I,.inl rfl,hrun,q1,fun _ h=>h,q2,q3,?_⟩;exact Rep.own (k:=k) (ki:=ki) (Z2v ..)
structure Cells (w:World) (I:Nat→Prop) (κ:Nat→Option KI) (cs:List AVal) (arr:Array Value):Prop where
 len:arr.size=cs.length
 at_:∀ j (h:j<cs.length),∃ v,arr[j]? = some v∧Rep w I κ (cs[j]) v
theorem Cells.set {w:World} {I:Nat→Prop} {κ:Nat→Option KI} {cs ds:List AVal} {arr:Array Value} {off:Nat} {v:Value} (h:Cells w I κ cs arr) (h1:v.cells.size=ds.length)
  (h2:∀ j (h:j<ds.length),∃ u,v.cells[j]? = some u∧Rep w I κ (ds[j]) u) (hf:off+ds.length≤cs.length):Cells w I κ (Z5y cs off ds) (Z3l arr off v.cells.toList):=by
 have hvl:v.cells.toList.length=ds.length:=by simpa using h1
 have hsl:=Z5z hf;refine⟨by rw[Z5i,hsl,h.len],fun j hj => ?_⟩;rw[hsl] at hj;rw[Z4t _ _ _ _ (by rw[hvl,h.len];exact hf),Zaa hf];by_cases hin:off≤j∧j<off+ds.length
 ·rw[if_pos (by rw[hvl];exact hin),dif_pos hin]
  obtain⟨u,e,r⟩:=h2 (j-off) (by omega);exact⟨u,by simpa using e,r⟩
 ·rw[if_neg (by rw[hvl];exact hin),dif_neg hin]
  exact h.at_ j hj
def fillA (s:Z5) (places:List (Nat×Nat)):List AVal→List (Nat×Operand)→Option (List AVal)
 | cells,[]=>some cells
 | cells,(i,x)::r=>match places[i]? with
  | some (off,size)=>match Nat.beq (Z17      (s.eval x)).length size&&Nat.ble (off+size) cells.length&&Z3i    (Z17      (s.eval x)) with
   | true=>fillA s places (Z5y cells off (Z17 (s.eval x))) r
   | false=>none
  | none=>none
theorem fill_rep {w:World} {I:Nat→Prop} {κ:Nat→Option KI} {s:Z5} {ρ:Operand→Value} {places:List (Nat×Nat)} {pl:Nat→Option (Nat×Nat)} (hpl:∀ i p,places[i]? = some p→pl i=some p):∀ {parts:List (Nat×Operand)} {cells r:List AVal} {arr:Array Value},
  (∀ p∈parts,Rep w I κ (s.eval p.2) (ρ p.2))→Cells w I κ cells arr→fillA s places cells parts=some r →
  ∃ arr',Instr.fill pl arr (parts.map fun p=>(p.1,ρ p.2))=some arr'∧Cells w I κ r arr':=by
 intro parts
 induction parts with
 | nil=>intro cells r arr _ hc h;obtain rfl:=Option.some.inj h;exact⟨arr,rfl,hc⟩
 | cons p ps ih =>
  intro cells r arr hrep hc h;obtain⟨i,x⟩:=p;simp only[fillA] at h;split at h
  ·rename_i off size hp
   split at h
   ·rename_i hb
    simp only[Bool.and_eq_true] at hb;have h1:=Nat.eq_of_beq_eq_true hb.1.1;have h2:=Nat.le_of_ble_eq_true hb.1.2;obtain⟨v1,v2,_⟩:=Z4n (hrep (i,x) (by simp)) hb.2;obtain⟨arr',g1,g2⟩:=ih (fun p hp=>hrep p (by simp[hp])) (hc.set v1 v2 (by rw[h1];exact h2)) h;refine⟨arr',?_,g2⟩;rw[List.map_cons,fill_cons (hpl i _ hp) (by rw[v1,h1]) (by rw[hc.len];exact h2)];exact g1
   ·simp at h
  ·simp at h
def placesL (P:Program):List Field→Option (List (Nat×Nat))
 | []=>some []
 | f::r=>match aggP P f.type,placesL P r with
  | some (_,sz),some l=>some ((f.offset,sz)::l)
  | _,_=>none
def placesP (P:Program) (t:TypeId):Option (List (Nat×Nat)) :=
 match P.underlying t with
 | some (.struct fs)=>placesL P fs.toList
 | some (.array n e)=>match aggP P e with
  | some (_,sz)=>some ((List.range n).map fun i=>(i*sz,sz))
  | none=>none
 | _=>none
theorem run_places {P:Program} {w:World}:∀ {l:List Field} {r:List (Nat×Nat)},placesL P l=some r→(l.mapM fun f=>do pure (f.offset,← sizeOf f.type):Sem (List (Nat×Nat))).run P w = .ok r w:=by
 intro l
 induction l with
 | nil=>intro r h;obtain rfl:=Option.some.inj h;simp
 | cons f l ih =>
  intro r h;simp only[placesL] at h;split at h
  ·rename_i ag sz l' h1 h2
   obtain rfl:=Option.some.inj h;rw[List.mapM_cons];simp only[Sem.run_bind,Z27 h1,Result.andThen_ok,Sem.run_pure,ih h2]
  ·simp at h
theorem ok_build {P:Program} {o:Oper} {s:Z5} {t:TypeId} {parts:Array (Nat×Operand)} {places:List (Nat×Nat)} {z r:List AVal} (ho:o.op = .build t parts) (hz:Zf1 P t=some (.agg z)) (hp:placesP P t=some places)
  (hr:fillA s places z parts.toList=some r):OpOK P o (mkSp s o [] [] (.agg r) []) :=
 .quiet rfl fun Γ κ I s2 a w hP hrel hn=>by
  unfold Zf1 at hz;cases hi:P.info? t with
  | none=>rw[hi] at hz;simp at hz
  | some i =>
   cases hzz:i.zero with
   | none=>rw[hi] at hz;simp[hzz] at hz
   | some zv =>
    rw[hi] at hz;simp[hzz] at hz;have hzrep:=Z95 w I κ zv;rw[hz] at hzrep;have hzc:Cells w I κ z zv.cells:=by
     cases hzrep with
     | @agg _ vs hl hreps=>exact⟨by simp[Value.cells,hl],fun j hj=>⟨vs[j]'(by omega),by simp[Value.cells],hreps j hj (by omega)⟩⟩
    have hreps:∀ p∈parts.toList,Rep w I κ (s.eval p.2) (a.eval p.2):=by
     intro p hp;refine opd hrel hn p.2 ?_ rfl;simp only[ho,Op.operands,List.mem_map];exact⟨p,hp,rfl⟩
    have hmap:(parts.map fun(x:Nat×Operand)=>match x with | (i,x)=>(i,a.eval x)).toList=parts.toList.map fun p=>(p.1,a.eval p.2):=by simp
    unfold placesP at hp;split at hp
    ·rename_i fs hu
     obtain⟨arr',g1,g2⟩:=fill_rep (pl:=fun i=>places.toArray[i]?) (fun i p h=>by simpa using h) hreps hzc hr;refine⟨.agg arr',?_,?_⟩
     ·simp only[execOp,ho,Instr.build,Sem.run_bind,zeroValue,Z3a           hi,Result.andThen_ok,hzz,Sem.run_pure,Zp              hu]
      rw[Array.mapM_eq_mapM_toList,Sem.run_map,run_places hp];simp only[Result.andThen_ok,hmap,g1,Sem.run_pure]
     ·have:=Rep.agg (w:=w) (I:=I) (κ:=κ) (cells:=r) (vs:=arr'.toList) (by simpa using g2.len) (fun j h h'=>by obtain⟨v,e,q⟩:=g2.at_ j h;rw[← Array.getElem?_toList] at e;rw[List.getElem?_eq_getElem h'] at e;rw[Option.some.inj e];exact q)
      simpa[mkSp] using this
    ·rename_i n e hu
     split at hp
     ·rename_i ag sz ha
      obtain rfl:=Option.some.inj hp;obtain⟨arr',g1,g2⟩:=fill_rep (pl:=fun i=>some (i*sz,sz)) (fun i p h=>by
       rw[List.getElem?_map] at h;cases h':(List.range n)[i]? with
       | none=>rw[h'] at h;simp at h
       | some j =>
        rw[h'] at h;have:j=i:=by rw[List.getElem?_eq_some_iff] at h';obtain⟨_,rfl⟩:=h';simp
        subst this;simpa using h) hreps hzc hr
      refine⟨.agg arr',?_,?_⟩
      ·simp only[execOp,ho,Instr.build,Sem.run_bind,zeroValue,Z3a hi,Result.andThen_ok,hzz,Sem.run_pure,Zp hu,Z27 ha,hmap,g1]
      ·have:=Rep.agg (w:=w) (I:=I) (κ:=κ) (cells:=r) (vs:=arr'.toList) (by simpa using g2.len) (fun j h h'=>by obtain⟨v,e,q⟩:=g2.at_ j h;rw[← Array.getElem?_toList] at e;rw[List.getElem?_eq_getElem h'] at e;rw[Option.some.inj e];exact q)
       simpa[mkSp] using this
     ·simp at hp
    ·simp at hp
theorem ok_store_row {P:Program} {o:Oper} {s:Z5} {t:TypeId} {x y:Operand} {k e j sz' el:Nat} {es:List (List Im)} {ag:Bool} {sz:Nat} (c d:List Im) (ho:o.op = .store t x y)
  (hx:s.eval x = .ptr k e j) (hk:s.obj k=some (.row sz' el es)) (hc:es[e]? = some c) (ht:aggP P t=some (ag,sz)) (hl:Z3i (Z17 (s.eval y))=true) (hd:toImL (Z17 (s.eval y))=some d)
  (hsz:d.length=sz) (h0:0<sz) (hfit:j+sz≤c.length) :
  OpOK P o (mkSp s o [k] [] .top [(k,some (.row sz' el (es.set e (Z5y c j d))))]) :=
 .of fun Γ κ I s2 a w hP hrel hn hf=>by
  have h1:=opd hrel hn x (by simp[ho,Op.operands]) hx;have h2:=opd hrel hn y (by simp[ho,Op.operands]) rfl;have hk2:=(Z3m hn k (by simp)).trans hk;have h3:=Zd1 hrel.inv hk2;obtain⟨v1,v2,v3⟩:=Z4n h2 hl;obtain⟨t1,t2⟩:=Zbe hd;obtain⟨he,rfl⟩:=List.getElem?_eq_some_iff.1 hc;generalize hp:a.eval x=p at h1;cases h1 with
  | @ptr _ _ _ ki eκ =>
   simp only[OAt,eκ,ORep] at h3;obtain⟨c1,c2,c3,arr,c4,c5,c6⟩:=h3;obtain⟨hel,hcells⟩:=c6 e he;generalize hV:Z17 (s.eval y)=V at *;have hvl:(a.eval y).cells.toList.length=sz:=by rw[← hsz,t1];simpa using v1
   have hbound:e*sz'+j+sz≤arr.size:=by
    have h4:(e+1)*sz'≤ki.cap*sz':=Nat.mul_le_mul_right _ (by omega);rw[Nat.add_mul] at h4;rw[c5];omega
   let ob:Obj:=.cells (Z3l arr (e*sz'+j) (a.eval y).cells.toList) el (0,0)
   have hrun:(execOp a.eval o).run P w = .ok .skip (World.setBlock w ki.b ob):=by
    have hst:=Z7b (P:=P) (b:=ki.b) (el:=el) (a.eval y).cells.toList w arr (e*sz'+j) 0 c4 (by rw[hvl];omega) v3 (by intro e;rw[e] at hvl;simp at hvl;omega);simp only[execOp,ho,hp,Instr.storeAt,Instr.sureAddr,pure_bind,storeVar,Sem.run_bind,Z27 ht,Result.andThen_ok];rw[if_neg (by simp at hvl;simp[hvl])];simp only[Nat.add_zero] at hst;simp[c1,hst,ob]
   have hb:ki.b<w.heap.size:=(Array.getElem?_eq_some_iff.1 c4).1;have hne:∀ b,I b→(World.setBlock w ki.b ob).heap[b]? = w.heap[b]? := fun b hb'=>by
    rw[Z30 _ _ _ _ hb,if_neg];rintro rfl;exact hrel.inv.disj k _ ki hk2 eκ hb'
   have hO:ORep (World.setBlock w ki.b ob) I κ ki (.row sz' el (es.set e (Z5y es[e] j d))):=by
    have hsl:=Z5z (l:=es[e]) (r:=d) (j:=j) (by omega);refine⟨c1,by simpa using c2,by simpa using c3,Z3l arr (e*sz'+j) (a.eval y).cells.toList,by rw[Z30 _ _ _ _ hb,if_pos rfl],by rw[Z5i];exact c5,fun i hi => ?_⟩;simp only[List.length_set] at hi;by_cases hie:e=i
    ·subst hie
     simp only[List.getElem_set_self];refine⟨by rw[hsl];exact hel,fun m hm => ?_⟩;rw[hsl] at hm;rw[Z4t _ _ _ _ (by rw[hvl];exact hbound),Zaa (by omega)];by_cases hin:j≤m∧m<j+d.length
     ·rw[if_pos (by rw[hvl];omega),dif_pos hin]
      obtain⟨u,q1,q2⟩:=v2 (m-j) (by omega);refine⟨u,?_,(Zdi q2 (t2 (m-j) (by omega) (by omega))).mono (fun _ h=>h) hne⟩;rw[show e*sz'+m-(e*sz'+j)=m-j from by omega];simpa using q1
     ·rw[if_neg (by rw[hvl];omega),dif_neg hin]
      obtain⟨u,q1,q2⟩:=hcells m hm;exact⟨u,q1,q2.mono (fun _ h=>h) hne⟩
    ·rw[List.getElem_set_ne hie]
     obtain⟨g1,g2⟩:=c6 i hi;refine⟨g1,fun m hm => ?_⟩;obtain⟨u,q1,q2⟩:=g2 m hm;refine⟨u,?_,q2.mono (fun _ h=>h) hne⟩;rw[Z4t _ _ _ _ (by rw[hvl];exact hbound),if_neg]
     ·exact q1
     ·intro hin
      rw[hvl] at hin;have hm':m<sz':=by rw[← g1];exact hm
      rcases Nat.lt_or_gt_of_ne hie with hlt | hgt
      ·have:=Nat.mul_le_mul_right sz' (show e+1≤i from hlt)
       rw[Nat.add_mul] at this;omega
      ·have:=Nat.mul_le_mul_right sz' (show i+1≤e from hgt)
       rw[Nat.add_mul] at this;omega
   obtain⟨g1,g2⟩:=hrel.inv.update hk2 eκ hO;exact⟨undef,.skip,_,κ,I,.inr ⟨rfl,rfl⟩,hrun,g1,fun _ h=>h,g2,fun _ _ _=>rfl,.top _⟩
def binStr (op:BinOp) (a b:ByteArray):Option Value :=
 match op with
 | .eql=>some (.bool (a.toList==b.toList))
 | .neq=>some (.bool !(a.toList==b.toList))
 | .lss=>some (.bool (Op.bytesLess a.toList b.toList))
 | .leq=>some (.bool (Op.bytesLess a.toList b.toList||a.toList==b.toList))
 | .gtr=>some (.bool !(Op.bytesLess a.toList b.toList||a.toList==b.toList))
 | .geq=>some (.bool !(Op.bytesLess a.toList b.toList))
 | _=>none
theorem ok_binStr {P:Program} {o:Oper} {s:Z5} {op:BinOp} {t t2:TypeId} {x y:Operand} {a b:ByteArray} {r:Value} (ho:o.op = .binOp op t x y t2)
  (hx:s.eval x = .im (.sc (.string a))) (hy:s.eval y = .im (.sc (.string b))) (h:binStr op a b=some r):OpOK P o (mkSp s o [] [] (.im (.sc r)) []) :=
 ok_pure r [(x,.string a),(y,.string b)] (by simp[ho,Op.operands,hx,hy]) (fun ρ hρ w=>by
  have h1:=hρ (x,.string a) (by simp);have h2:=hρ (y,.string b) (by simp);simp only[execOp,ho];rw[h1,h2];cases op<;>simp[binStr] at h<;>subst h<;>simp[eqGuard,binOp,Op.stringOp])
theorem ok_addStr {P:Program} {o:Oper} {s:Z5} {t t2:TypeId} {x y:Operand} {a b:ByteArray} (ho:o.op = .binOp .add t x y t2)
  (hx:s.eval x = .im (.sc (.string a))) (hy:s.eval y = .im (.sc (.string b))) (h:((a.size+b.size:Nat):Int)≤9223372036854775807):OpOK P o (mkSp s o [] [] (.im (.sc (.string (a++b)))) []) :=
 ok_pure _ [(x,.string a),(y,.string b)] (by simp[ho,Op.operands,hx,hy]) (fun ρ hρ w=>by
  have h1:=hρ (x,.string a) (by simp);have h2:=hρ (y,.string b) (by simp);simp only[execOp,ho];rw[h1,h2];have:¬ (((a.size+b.size:Nat):Int)>IntKind.i64.max):=by
   have:IntKind.i64.max=9223372036854775807:=by decide
   rw[this];omega
  simp only[eqGuard,binOp,Op.stringOp];rw[Sem.run_bind];simp;omega)
def binBool (op:BinOp) (a b:Bool):Option Value :=
 match op with
 | .eql=>some (.bool (a==b))
 | .neq=>some (.bool !(a==b))
 | _=>none
theorem run_eqBool {P:Program} {t:TypeId} (ht:P.underlying t=some .bool) (a b:Bool) (w:World):(binOp .eql t (.bool a) (.bool b)).run P w = .ok (.bool (a==b)) w∧(binOp .neq t (.bool a) (.bool b)).run P w = .ok (.bool !(a==b)) w:=by
 have hd:∀ d,(Op.equalIn (d+1) t (.bool a) (.bool b)).run P w = .ok (a==b) w:=by
  intro d;rw[Op.equalIn];simp only[Sem.run_bind,Zp ht,Result.andThen_ok,Sem.run_pure]
 have h:(Op.equal t (.bool a) (.bool b)).run P w = .ok (a==b) w:=hd 9999;constructor
 ·show(do pure (.bool (← Op.equal t (.bool a) (.bool b))):Sem Value).run P w=_
  rw[Sem.run_bind,h];rfl
 ·show(do pure (.bool (!(← Op.equal t (.bool a) (.bool b)))):Sem Value).run P w=_
  rw[Sem.run_bind,h];rfl
theorem ok_binBool {P:Program} {o:Oper} {s:Z5} {op:BinOp} {t t2:TypeId} {x y:Operand} {a b:Bool} {r:Value} (ho:o.op = .binOp op t x y t2) (ht:P.underlying t=some .bool)
  (hx:s.eval x = .im (.sc (.bool a))) (hy:s.eval y = .im (.sc (.bool b))) (h:binBool op a b=some r):OpOK P o (mkSp s o [] [] (.im (.sc r)) []) :=
 ok_pure r [(x,.bool a),(y,.bool b)] (by simp[ho,Op.operands,hx,hy]) (fun ρ hρ w=>by
  have h1:=hρ (x,.bool a) (by simp);have h2:=hρ (y,.bool b) (by simp);simp only[execOp,ho];rw[h1,h2];cases op<;>simp[binBool] at h<;>subst h<;>simp[eqGuard,run_eqBool ht])
theorem ok_not {P:Program} {o:Oper} {s:Z5} {t:TypeId} {x:Operand} {a:Bool} (ho:o.op = .unOp .not t x) (hx:s.eval x = .im (.sc (.bool a))):OpOK P o (mkSp s o [] [] (.im (.sc (.bool !a))) []) :=
 ok_pure _ [(x,.bool a)] (by simp[ho,Op.operands,hx]) (fun ρ hρ w=>by
  have h1:=hρ (x,.bool a) (by simp);simp[execOp,ho,h1,Op.unary])
theorem ok_neg {P:Program} {o:Oper} {s:Z5} {t:TypeId} {x:Operand} {k:IntKind} {a:Int} (ho:o.op = .unOp .neg t x) (hx:s.eval x = .im (.sc (.int k a))):OpOK P o (mkSp s o [] [] (.im (.sc (.int k (k.wrap (0-a))))) []) :=
 ok_pure _ [(x,.int k a)] (by simp[ho,Op.operands,hx]) (fun ρ hρ w=>by
  have h1:=hρ (x,.int k a) (by simp);simp only[execOp,ho,h1];rfl)
theorem ok_conv {P:Program} {o:Oper} {s:Z5} {st t:TypeId} {x:Operand} {k k':IntKind} {a:Int} {d:TypeDesc} (ho:o.op = .convert st t x) (hs:P.underlying st=some d) (ht:P.underlying t=some (.int k')) (hx:s.eval x = .im (.sc (.int k a))) :
  OpOK P o (mkSp s o [] [] (.im (.sc (.int k' (k'.wrap a)))) []) :=
 ok_pure _ [(x,.int k a)] (by simp[ho,Op.operands,hx]) (fun ρ hρ w=>by
  have h1:=hρ (x,.int k a) (by simp);simp only at h1;simp[execOp,ho,h1,convert,Zp hs,Zp ht,Conv.intToInt])
def binBits (op:BinOp) (k:IntKind) (a b:Int):Option Value :=
 match op with
 | .and=>some (.int k (k.wrap ((BitVec.ofInt k.bits a &&& BitVec.ofInt k.bits b).toNat:Int)))
 | .or=>some (.int k (k.wrap ((BitVec.ofInt k.bits a ||| BitVec.ofInt k.bits b).toNat:Int)))
 | .xor=>some (.int k (k.wrap ((BitVec.ofInt k.bits a ^^^ BitVec.ofInt k.bits b).toNat:Int)))
 | .andNot=>some (.int k (k.wrap ((BitVec.ofInt k.bits a &&& ~~~ BitVec.ofInt k.bits b).toNat:Int)))
 | _=>none
theorem ok_binBits {P:Program} {o:Oper} {s:Z5} {op:BinOp} {t t2:TypeId} {x y:Operand} {k:IntKind} {a b:Int} {r:Value} (ho:o.op = .binOp op t x y t2)
  (hx:s.eval x = .im (.sc (.int k a))) (hy:s.eval y = .im (.sc (.int k b))) (h:binBits op k a b=some r):OpOK P o (mkSp s o [] [] (.im (.sc r)) []) :=
 ok_pure r [(x,.int k a),(y,.int k b)] (by simp[ho,Op.operands,hx,hy]) (fun ρ hρ w=>by
  have h1:=hρ (x,.int k a) (by simp);have h2:=hρ (y,.int k b) (by simp);simp only[execOp,ho];rw[h1,h2];cases op<;>simp[binBits] at h<;>subst h<;>simp[eqGuard,binOp,Op.intBits])
theorem ok_shl {P:Program} {o:Oper} {s:Z5} {t t2:TypeId} {x y:Operand} {k k':IntKind} {a b:Int} (ho:o.op = .binOp .shl t x y t2)
  (hx:s.eval x = .im (.sc (.int k a))) (hy:s.eval y = .im (.sc (.int k' b))) (h:0≤b):OpOK P o (mkSp s o [] [] (.im (.sc (.int k (k.wrap (a*2 ^ (min b.toNat k.bits)))))) []) :=
 ok_pure _ [(x,.int k a),(y,.int k' b)] (by simp[ho,Op.operands,hx,hy]) (fun ρ hρ w=>by
  have h1:=hρ (x,.int k a) (by simp);have h2:=hρ (y,.int k' b) (by simp);simp only[execOp,ho];rw[h1,h2];have hb:¬ b<0:=by omega
  simp[eqGuard,binOp,Op.shift,hb])
theorem ok_shr {P:Program} {o:Oper} {s:Z5} {t t2:TypeId} {x y:Operand} {k k':IntKind} {a b:Int} (ho:o.op = .binOp .shr t x y t2)
  (hx:s.eval x = .im (.sc (.int k a))) (hy:s.eval y = .im (.sc (.int k' b))) (h:0≤b):OpOK P o (mkSp s o [] [] (.im (.sc (.int k (a.fdiv (2 ^ (min b.toNat k.bits)))))) []) :=
 ok_pure _ [(x,.int k a),(y,.int k' b)] (by simp[ho,Op.operands,hx,hy]) (fun ρ hρ w=>by
  have h1:=hρ (x,.int k a) (by simp);have h2:=hρ (y,.int k' b) (by simp);simp only[execOp,ho];rw[h1,h2];have hb:¬ b<0:=by omega
  simp[eqGuard,binOp,Op.shift,hb])
theorem ok_quo {P:Program} {o:Oper} {s:Z5} {t t2:TypeId} {x y:Operand} {k:IntKind} {a b:Int} (ho:o.op = .binOp .quo t x y t2)
  (hx:s.eval x = .im (.sc (.int k a))) (hy:s.eval y = .im (.sc (.int k b))) (h:b≠0):OpOK P o (mkSp s o [] [] (.im (.sc (.int k (k.wrap (a.tdiv b))))) []) :=
 ok_pure _ [(x,.int k a),(y,.int k b)] (by simp[ho,Op.operands,hx,hy]) (fun ρ hρ w=>by
  have h1:=hρ (x,.int k a) (by simp);have h2:=hρ (y,.int k b) (by simp);simp only[execOp,ho];rw[h1,h2];simp[eqGuard,binOp,Op.intDiv,h])
theorem ok_rem {P:Program} {o:Oper} {s:Z5} {t t2:TypeId} {x y:Operand} {k:IntKind} {a b:Int} (ho:o.op = .binOp .rem t x y t2)
  (hx:s.eval x = .im (.sc (.int k a))) (hy:s.eval y = .im (.sc (.int k b))) (h:b≠0):OpOK P o (mkSp s o [] [] (.im (.sc (.int k (a.tmod b)))) []) :=
 ok_pure _ [(x,.int k a),(y,.int k b)] (by simp[ho,Op.operands,hx,hy]) (fun ρ hρ w=>by
  have h1:=hρ (x,.int k a) (by simp);have h2:=hρ (y,.int k b) (by simp);simp only[execOp,ho];rw[h1,h2];simp[eqGuard,binOp,Op.intDiv,h])
def AllP:List Prop→Prop
 | []=>True
 | p::r=>p∧AllP r
structure Eff where
 keys:List Nat
 news:List Nat
 res:AVal
 post:List (Nat×Option MObj)
 props:List Prop
structure Ext where
 f:Program→Oper→Z5→Option Eff
 ok:∀ (P:Program) (o:Oper) (s:Z5) (e:Eff),f P o s=some e→AllP e.props→OpOK P o (mkSp s o e.keys e.news e.res e.post)
inductive Hint where
 | more (x:Ext)
 | none
 | b (r:Bool)
 | c (cells:List Im)
 | k (key:Nat)
 | rows (es:List (List Im))
 | app (key:Nat) (es:List (List Im))
 | put (cells:List Im) (es:List (List Im))
 | callz (inv out:List (Nat×Nat)) (vk:List Nat) (news:List Nat) (floor:Nat) (r:AVal) (objs:List (Nat×Option MObj))
 | call (inv out:List (Nat×Nat)) (vk:List Nat) (news:List Nat) (floor:Nat) (r:AVal) (objs:List (Nat×Option MObj))
 | ext (r:AVal)
 | any (r:AVal)
def Zba (h:Hint) (v:Value):Value×List Prop :=
 match h,v with
 | .b r,.bool c=>(.bool r,[c=r])
 | _,v=>(v,[])
theorem Zaj {h:Hint} {v:Value} (hp:AllP (Zba h v).2):(Zba h v).1=v:=by
 unfold Zba at hp ⊢;split at hp
 ·rw[hp.1]
 ·rfl
def scal (v:Value×List Prop):Eff:=⟨[],[],.im (.sc v.1),[],v.2⟩
def eqK:IntKind→IntKind→Bool
 | .i8,.i8 | .i16,.i16 | .i32,.i32 | .i64,.i64 | .u8,.u8 | .u16,.u16 | .u32,.u32 | .u64,.u64=>true
 | _,_=>false
theorem eqK_eq {a b:IntKind} (h:eqK a b=true):a=b:=by cases a<;>cases b<;>first | rfl | simp[eqK] at h
def autoBin (P:Program) (h:Hint) (s:Z5) (op:BinOp) (t:TypeId) (x y:Operand):Option Eff :=
 match op,s.eval x,s.eval y with
 | .shl,.im (.sc (.int k a)),.im (.sc (.int _ b))=>some ⟨[],[],.im (.sc (.int k (k.wrap (a*2 ^ (min b.toNat k.bits))))),[],[0≤b]⟩
 | .shr,.im (.sc (.int k a)),.im (.sc (.int _ b))=>some ⟨[],[],.im (.sc (.int k (a.fdiv (2 ^ (min b.toNat k.bits))))),[],[0≤b]⟩
 | .quo,.im (.sc (.int k a)),.im (.sc (.int k' b))=>match eqK k k' with
  | true=>some ⟨[],[],.im (.sc (.int k (k.wrap (a.tdiv b)))),[],[b≠0]⟩
  | false=>none
 | .rem,.im (.sc (.int k a)),.im (.sc (.int k' b))=>match eqK k k' with
  | true=>some ⟨[],[],.im (.sc (.int k (a.tmod b))),[],[b≠0]⟩
  | false=>none
 | .add,.im (.sc (.string a)),.im (.sc (.string b))=>some ⟨[],[],.im (.sc (.string (a++b))),[],[((a.size+b.size:Nat):Int)≤9223372036854775807]⟩
 | op,.im (.sc (.int k a)),.im (.sc (.int k' b))=>match eqK k k' with
  | true=>match binInt op k a b with
   | some v=>some (scal (Zba h v))
   | none=>match binBits op k a b with
    | some v=>some (scal (v,[]))
    | none=>none
  | false=>none
 | op,.im (.sc (.string a)),.im (.sc (.string b))=>match binStr op a b with
  | some v=>some (scal (Zba h v))
  | none=>none
 | op,.im (.sc (.bool a)),.im (.sc (.bool b))=>match P.underlying t with
  | some .bool=>match binBool op a b with
   | some v=>some (scal (Zba h v))
   | none=>none
  | _=>none
 | _,_,_=>none
theorem autoBin_ok {P:Program} {h:Hint} {o:Oper} {s:Z5} {op:BinOp} {t t2:TypeId} {x y:Operand} {e:Eff} (ho:o.op = .binOp op t x y t2) (he:autoBin P h s op t x y=some e) (hp:AllP e.props) :
  OpOK P o (mkSp s o e.keys e.news e.res e.post):=by
 unfold autoBin at he;split at he
 ·rename_i hx hy;obtain rfl:=Option.some.inj he;exact ok_shl ho hx hy hp.1
 ·rename_i hx hy;obtain rfl:=Option.some.inj he;exact ok_shr ho hx hy hp.1
 ·rename_i hx hy
  split at he
  ·rename_i hk;obtain rfl:=eqK_eq hk;obtain rfl:=Option.some.inj he;exact ok_quo ho hx hy hp.1
  ·simp at he
 ·rename_i hx hy
  split at he
  ·rename_i hk;obtain rfl:=eqK_eq hk;obtain rfl:=Option.some.inj he;exact ok_rem ho hx hy hp.1
  ·simp at he
 ·rename_i hx hy;obtain rfl:=Option.some.inj he;exact ok_addStr ho hx hy hp.1
 ·rename_i hx hy
  split at he
  ·rename_i hk;obtain rfl:=eqK_eq hk
   split at he
   ·rename_i v hv;obtain rfl:=Option.some.inj he
    have:=ok_binInt (P:=P) ho hx hy hv;simp only[scal] at hp ⊢;rw[Zaj hp];exact this
   ·split at he
    ·rename_i v hv;obtain rfl:=Option.some.inj he
     exact ok_binBits (P:=P) ho hx hy hv
    ·simp at he
  ·simp at he
 ·rename_i hx hy
  split at he
  ·rename_i v hv;obtain rfl:=Option.some.inj he
   have:=ok_binStr (P:=P) ho hx hy hv;simp only[scal] at hp ⊢;rw[Zaj hp];exact this
  ·simp at he
 ·rename_i hx hy
  split at he
  ·rename_i ht
   split at he
   ·rename_i v hv;obtain rfl:=Option.some.inj he
    have:=ok_binBool (P:=P) ho ht hx hy hv;simp only[scal] at hp ⊢;rw[Zaj hp];exact this
   ·simp at he
  ·simp at he
 ·simp at he
def autoLoad (P:Program) (h:Hint) (s:Z5) (t:TypeId) (x:Operand):Option Eff :=
 match aggP P t with
 | some (ag,sz)=>match s.eval x with
  | .ptr k e j=>match s.obj k with
   | some (.box el cells)=>match e with
    | 0=>match Zec   ag sz (cells.drop j) with
     | some r=>some ⟨[k],[],r,[],[]⟩
     | none=>none
    | _=>none
   | some (.row sz' el es)=>match h with
    | .c c=>match Zec   ag sz ((c.drop j).map .im) with
     | some r=>some ⟨[k],[],r,[],[es[e]? = some c]⟩
     | none=>none
    | _=>none
   | _=>none
  | .ip cells=>match Zec   ag sz (cells.map .im) with
   | some r=>some ⟨[],[],r,[],[]⟩
   | none=>none
  | _=>none
 | none=>none
theorem autoLoad_ok {P:Program} {h:Hint} {o:Oper} {s:Z5} {t:TypeId} {x:Operand} {e:Eff} (ho:o.op = .load t x) (he:autoLoad P h s t x=some e) (hp:AllP e.props) :
  OpOK P o (mkSp s o e.keys e.news e.res e.post):=by
 unfold autoLoad at he;split at he
 ·rename_i ag sz ht
  split at he
  ·rename_i k e' j hx
   split at he
   ·rename_i el cells hk
    split at he
    ·split at he
     ·rename_i r hr;obtain rfl:=Option.some.inj he;exact ok_load_box ho hx hk ht hr
     ·simp at he
    ·simp at he
   ·rename_i sz' el es hk
    split at he
    ·rename_i c
     split at he
     ·rename_i r hr;obtain rfl:=Option.some.inj he;exact ok_load_row c ho hx hk hp.1 ht hr
     ·simp at he
    ·simp at he
   ·simp at he
  ·rename_i cells hx
   split at he
   ·rename_i r hr;obtain rfl:=Option.some.inj he;exact ok_load_ip ho hx ht hr
   ·simp at he
  ·simp at he
 ·simp at he
def Zet (P:Program) (h:Hint) (s:Z5) (t:TypeId) (x y:Operand):Option Eff :=
 match aggP P t,s.eval x with
 | some (ag,sz),.ptr k e j=>match Z3i    (Z17      (s.eval y))&&Nat.blt 0 sz with
  | true=>match s.obj k with
   | some (.box el cells)=>match e,Nat.beq (Z17      (s.eval y)).length sz&&Nat.ble (j+sz) cells.length with
    | 0,true=>some ⟨[k],[],.top,[(k,some (.box el (Z5y cells j (Z17 (s.eval y)))))],[]⟩
    | _,_=>none
   | some (.row sz' el es)=>match h,toImL (Z17      (s.eval y)) with
    | .put c es',some d=>match Nat.beq d.length sz&&Nat.ble (j+sz) c.length with
     | true=>some ⟨[k],[],.top,[(k,some (.row sz' el es'))],[es[e]? = some c,es'=es.set e (Z5y c j d)]⟩
     | false=>none
    | _,_=>none
   | _=>none
  | false=>none
 | _,_=>none
theorem autoStore_ok {P:Program} {h:Hint} {o:Oper} {s:Z5} {t:TypeId} {x y:Operand} {e:Eff} (ho:o.op = .store t x y) (he:Zet P h s t x y=some e) (hp:AllP e.props) :
  OpOK P o (mkSp s o e.keys e.news e.res e.post):=by
 unfold Zet at he;split at he
 ·rename_i ag sz k e' j ht hx
  split at he
  ·rename_i hb
   simp only[Bool.and_eq_true,Nat.blt_eq] at hb;split at he
   ·rename_i el cells hk
    split at he
    ·rename_i hb2
     simp only[Bool.and_eq_true] at hb2;obtain rfl:=Option.some.inj he;exact ok_store_box ho hx hk ht hb.1 (Nat.eq_of_beq_eq_true hb2.1) hb.2 (Nat.le_of_ble_eq_true hb2.2)
    ·simp at he
   ·rename_i sz' el es hk
    split at he
    ·rename_i c es' d hd
     split at he
     ·rename_i hb2
      simp only[Bool.and_eq_true] at hb2;obtain rfl:=Option.some.inj he;simp only[AllP] at hp;obtain⟨p1,p2,_⟩:=hp;subst p2;exact ok_store_row c d ho hx hk p1 ht hb.1 hd (Nat.eq_of_beq_eq_true hb2.1) hb.2 (Nat.le_of_ble_eq_true hb2.2)
     ·simp at he
    ·simp at he
   ·simp at he
  ·simp at he
 ·simp at he
def optN (s:Z5) (y:Option Operand) (d:Int):Option Int:=match y with
 | some x=>match s.eval x with
  | .im (.sc (.int _ n))=>some n
  | _=>none
 | none=>some d
theorem Zd0 {s:Z5} {y:Option Operand} {d n:Int} (h:optN s y d=some n):optA s y n d:=by
 unfold optN at h;cases y with
 | none=>simp at h;exact h.symm
 | some x =>
  simp only at h;split at h
  ·rename_i k m hx;simp at h;subst h;exact⟨k,hx⟩
  ·simp at h
def Zeu (P:Program) (h:Hint) (s:Z5) (t:TypeId) (x:Operand) (lo hi:Option Operand):Option Eff :=
 match P.underlying t,s.eval x with
 | some .string,.im (.sc (.string str))=>match optN s lo 0,optN s hi str.size with
  | some l,some u=>some ⟨[],[],.im (.sc (.string (str.extract l.toNat u.toNat))),[],[0≤l,l≤u,u≤(str.size:Int)]⟩
  | _,_=>none
 | some (.slice _),.im (.row es)=>match Z94   P t,h,optN s lo 0,optN s hi es.length with
  | some (_,sz),.rows es',some l,some u=>some ⟨[],[],.im (.row es'),[],[0≤l,l≤u,u≤(es.length:Int),∀ c∈es,c.length=sz,es'=(es.drop l.toNat).take (u.toNat-l.toNat)]⟩
  | _,_,_,_=>none
 | _,_=>none
theorem autoSlice_ok {P:Program} {h:Hint} {o:Oper} {s:Z5} {t:TypeId} {x:Operand} {lo hi:Option Operand} {e:Eff} (ho:o.op = .slice t x lo hi none) (he:Zeu P h s t x lo hi=some e) (hp:AllP e.props) :
  OpOK P o (mkSp s o e.keys e.news e.res e.post):=by
 unfold Zeu at he;split at he
 ·rename_i ht hx
  split at he
  ·rename_i l u hl hu
   obtain rfl:=Option.some.inj he;exact Ze7 l u ho ht hx (Zd0 hl) (Zd0 hu) hp.1 hp.2.1 hp.2.2.1
  ·simp at he
 ·rename_i ht hx
  split at he
  ·rename_i el sz es' l u hel hl hu
   obtain rfl:=Option.some.inj he;simp only[AllP] at hp;obtain⟨p1,p2,p3,p4,p5,_⟩:=hp;subst p5;exact ok_slice_im l u ho hel hx (Zd0 hl) (Zd0 hu) p1 p2 p3 p4
  ·simp at he
 ·simp at he
def Z9n (P:Program) (h:Hint) (s:Z5) (t:TypeId) (x i:Operand):Option Eff :=
 match Z94 P t,s.eval x,s.eval i with
 | some (_,sz),.im (.row es),.im (.sc (.int _ n))=>match h with
  | .c c=>match Nat.beq c.length sz with
   | true=>some ⟨[],[],.ip c,[],[0≤n,es[n.toNat]? = some c]⟩
   | false=>none
  | _=>none
 | some (_,sz),.own key,.im (.sc (.int _ n))=>match s.obj key with
  | some (.row sz' el es)=>match Nat.beq sz' sz with
   | true=>some ⟨[key],[],.ptr key n.toNat 0,[],[0≤n,n<(es.length:Int)]⟩
   | false=>none
  | _=>none
 | _,_,_=>none
theorem Zdf {P:Program} {h:Hint} {o:Oper} {s:Z5} {t:TypeId} {x i:Operand} {e:Eff} (ho:o.op = .indexAddr t x i) (he:Z9n P h s t x i=some e) (hp:AllP e.props) :
  OpOK P o (mkSp s o e.keys e.news e.res e.post):=by
 unfold Z9n at he;split at he
 ·rename_i sz es k n ht hx hi
  split at he
  ·rename_i c
   split at he
   ·rename_i hb
    obtain rfl:=Option.some.inj he;exact Ze9 c ho ht hx hi hp.1 hp.2.1 (Nat.eq_of_beq_eq_true hb)
   ·simp at he
  ·simp at he
 ·rename_i sz key k n ht hx hi
  split at he
  ·rename_i sz' el es hk
   split at he
   ·rename_i hb
    obtain rfl:=Nat.eq_of_beq_eq_true hb;obtain rfl:=Option.some.inj he;exact Zdc ho ht hx hk hi hp.1 hp.2.1
   ·simp at he
  ·simp at he
 ·simp at he
def Zee (h:Hint) (n:Nat):Int×List Prop :=
 match h with
 | .any (.im (.sc (.int .i64 m)))=>(m,[(n:Int)=m])
 | _=>(n,[])
theorem lenRes_eq {h:Hint} {n:Nat} (hp:AllP (Zee h n).2):(Zee h n).1=n:=by
 unfold Zee at hp ⊢;split at hp
 ·exact hp.1.symm
 ·rfl
def autoLen (P:Program) (h:Hint) (s:Z5) (x:Operand) (ts:Array TypeId):Option Eff :=
 match ts[0]? with
 | some t=>match P.underlying t,s.eval x with
  | some .string,.im (.sc (.string str))=>some ⟨[],[],.im (.sc (.int .i64 str.size)),[],[]⟩
  | some (.slice _),.im (.row es)=>some ⟨[],[],.im (.sc (.int .i64 (Zee h es.length).1)),[],(Zee h es.length).2⟩
  | some (.slice _),.none0=>some ⟨[],[],.im (.sc (.int .i64 0)),[],[]⟩
  | some (.slice _),.own k=>match s.obj k with
   | some (.row _ _ es)=>some ⟨[k],[],.im (.sc (.int .i64 (Zee h es.length).1)),[],(Zee h es.length).2⟩
   | _=>none
  | _,_=>none
 | none=>none
theorem autoLen_ok {P:Program} {h:Hint} {o:Oper} {s:Z5} {x:Operand} {ts:Array TypeId} {e:Eff} (ho:o.op = .call { callee:=.builtin .len,args := #[x],argTypes:=ts }) (he:autoLen P h s x ts=some e) (hp:AllP e.props) :
  OpOK P o (mkSp s o e.keys e.news e.res e.post):=by
 unfold autoLen at he;split at he
 ·rename_i t hts
  split at he
  ·rename_i ht hx;obtain rfl:=Option.some.inj he;exact ok_len_string ho hts ht hx
  ·rename_i es ht hx;obtain rfl:=Option.some.inj he
   simp only at hp ⊢;rw[lenRes_eq hp];exact Z9y _ [] ho hts ht hx (.inl ⟨es,rfl,rfl⟩)
  ·rename_i ht hx;obtain rfl:=Option.some.inj he;exact Z9y 0 [] ho hts ht hx (.inr (.inl ⟨rfl,rfl⟩))
  ·rename_i k ht hx
   split at he
   ·rename_i sz el es hk;obtain rfl:=Option.some.inj he
    simp only at hp ⊢;rw[lenRes_eq hp];exact Z9y _ [k] ho hts ht hx (.inr (.inr (.inr ⟨k,sz,el,es,rfl,by simp,hk,rfl⟩)))
   ·simp at he
  ·simp at he
 ·simp at he
def srcA (s:Z5) (y:AVal):Option (List Nat×List (List Im)×Option Nat) :=
 match y with
 | .im (.row es)=>some ([],es,none)
 | .none0=>some ([],[],none)
 | .own k=>match s.obj k with
  | some (.row sz _ es)=>some ([k],es,some sz)
  | _=>none
 | _=>none
def Zcv (P:Program) (h:Hint) (s:Z5) (x y:Operand) (ts:Array TypeId):Option Eff :=
 match ts[0]? with
 | some st=>match Z94   P st,h,srcA s (s.eval y) with
  | some (e,sz),.app k2 es',some (skeys,new,ksz)=>match Z8k    P e with
   | some (by_,sz2)=>match Nat.beq sz2 sz&&Zbm    P ts&&Nat.blt 0 by_&&(match ksz with | some z=>Nat.beq z sz | none=>true) with
    | true=>match s.eval x with
     | .none0=>some ⟨[]++skeys,[k2],.own k2,[(k2,some (.row sz e es'))],[es'=[]++new,∀ c∈new,c.length=sz,∀ c∈new,Z3i (c.map .im)=true,(([]:List (List Im)).length+new.length)*by_≤140737488355328]⟩
     | .own k=>match s.obj k with
      | some (.row sz' e' old)=>match Nat.beq sz' sz&&Nat.beq e' e with
       | true=>some ⟨[k]++skeys,[k2],.own k2,[(k2,some (.row sz e es')),(k,none)],[es'=old++new,∀ c∈new,c.length=sz,∀ c∈new,Z3i (c.map .im)=true,(old.length+new.length)*by_≤140737488355328]⟩
       | false=>none
      | _=>none
     | _=>none
    | false=>none
   | none=>none
  | _,_,_=>none
 | none=>none
theorem autoAppend_ok {P:Program} {h:Hint} {o:Oper} {s:Z5} {x y:Operand} {ts:Array TypeId} {e:Eff} (ho:o.op = .call { callee:=.builtin .append,args := #[x,y],argTypes:=ts }) (he:Zcv P h s x y ts=some e) (hp:AllP e.props) :
  OpOK P o (mkSp s o e.keys e.news e.res e.post):=by
 unfold Zcv at he;split at he
 ·rename_i st hts
  split at he
  ·rename_i el sz k2 es' skeys new ksz hel hsrc
   split at he
   ·rename_i by_ sz2 hby
    split at he
    ·rename_i hb
     simp only[Bool.and_eq_true,Nat.blt_eq] at hb;obtain⟨⟨⟨b1,b2⟩,b3⟩,b4⟩:=hb;obtain rfl:=Nat.eq_of_beq_eq_true b1;obtain⟨hu,_⟩:=Z5t hel;have hS:Src s skeys (s.eval y) new∧∀ k sz' el' es'',s.eval y = .own k→s.obj k=some (.row sz' el' es'')→sz'=sz2:=by
      unfold srcA at hsrc;split at hsrc
      ·rename_i es hy;simp at hsrc;obtain⟨rfl,rfl,rfl⟩:=hsrc;rw[hy];exact⟨.im _,fun k _ _ _ e=>by simp at e⟩
      ·rename_i hy;simp at hsrc;obtain⟨rfl,rfl,rfl⟩:=hsrc;rw[hy];exact⟨.none0,fun k _ _ _ e=>by simp at e⟩
      ·rename_i k hy
       split at hsrc
       ·rename_i sz3 el3 es hk
        simp at hsrc;obtain⟨rfl,rfl,rfl⟩:=hsrc;rw[hy];refine⟨.own k _ _ _ (by simp) hk,fun k' sz' el' es'' e1 e2 => ?_⟩;simp at e1;subst e1;rw[hk] at e2;simp at e2;rw[← e2.1];exact Nat.eq_of_beq_eq_true b4
       ·simp at hsrc
      ·simp at hsrc
     split at he
     ·rename_i hx
      obtain rfl:=Option.some.inj he;simp only[AllP] at hp;obtain⟨p1,p2,p3,p4,_⟩:=hp;subst p1;exact ok_append k2 [] skeys ho hts b2 hu hby b3 hx rfl (.inl ⟨rfl,rfl,rfl⟩) hS.1 p2 hS.2 p3 p4
     ·rename_i k hx
      split at he
      ·rename_i sz' e' old hk
       split at he
       ·rename_i hb2
        simp only[Bool.and_eq_true] at hb2;obtain rfl:=Nat.eq_of_beq_eq_true hb2.1;obtain rfl:=Nat.eq_of_beq_eq_true hb2.2;obtain rfl:=Option.some.inj he;simp only[AllP] at hp;obtain⟨p1,p2,p3,p4,_⟩:=hp;subst p1;exact ok_append k2 [k] skeys ho hts b2 hu hby b3 hx rfl (.inr ⟨k,rfl,rfl,hk⟩) hS.1 p2 hS.2 p3 p4
       ·simp at he
      ·simp at he
     ·simp at he
    ·simp at he
   ·simp at he
  ·simp at he
 ·simp at he
def Enters (P:Program) (g:Nat):Prop:=∀ (args:Array Value) (w:World),(callFunc g args).run P w = .ok (.enter g args) w
def Zc8 (s:Z5):List Nat→Option (List (Nat×List (List Im)))
 | []=>some []
 | k::r=>match s.obj k,Zc8     s r with
  | some (.row _ _ es),some l=>some ((k,es)::l)
  | _,_=>none
theorem Zc7 {s:Z5}:∀ {l:List Nat} {v:List (Nat×List (List Im))},Zc8 s l=some v→∀ p∈v,∃ sz el,s.obj p.1=some (.row sz el p.2):=by
 intro l
 induction l with
 | nil=>intro v h;obtain rfl:=Option.some.inj h;intro p hp;simp at hp
 | cons k r ih =>
  intro v h;simp only[Zc8] at h;split at h
  ·rename_i sz el es l' hk hl
   obtain rfl:=Option.some.inj h;intro p hp;rcases List.mem_cons.1 hp with rfl | hp
   ·exact⟨sz,el,hk⟩
   ·exact ih hl p hp
  ·simp at h
def Zc2 (P:Program) (tr:AVal→AVal) (inv out:List (Nat×Nat)) (vk:List Nat) (news:List Nat) (floor:Nat) (r:AVal) (objs:List (Nat×Option MObj)) (s:Z5) (fo:Operand) (as:Array Operand):Option Eff :=
 match funOf (s.eval fo) with
 | some (g,caps)=>match Zc8 s vk with
  | some views=>match Zaq inv out views news floor&&inv.all (fun p=>(s.obj p.1).isSome) with
   | true=>some ⟨inv.map (·.1)++views.map (·.1),news,pass out [] r,Z9d ⟨[],objs,0⟩ out inv (views.map (·.1)) (Zby inv out r),
     [Enters P g,Fn P g ((as.toList.map s.eval++caps).map (fun x=>tr (pass inv views x))) (Zbu s inv views) floor (fun r' o'=>r'=r∧o'=objs)]⟩
   | false=>none
  | none=>none
 | _=>none
theorem Zd8 {P:Program} {tr:AVal→AVal} (htr:∀ (w:World) (I:Nat→Prop) (κ:Nat→Option KI) (x:AVal) (v:Value),Rep w I κ x v→Rep w I κ (tr x) v) {inv out:List (Nat×Nat)} {vk:List Nat} {news:List Nat} {floor:Nat} {r:AVal} {objs:List (Nat×Option MObj)} {o:Oper} {s:Z5} {fo:Operand} {as:Array Operand} {ts:Array TypeId} {e:Eff} (ho:o.op = .call { callee:=.value fo,args:=as,argTypes:=ts })
  (he:Zc2 P tr inv out vk news floor r objs s fo as=some e) (hp:AllP e.props):OpOK P o (mkSp s o e.keys e.news e.res e.post):=by
 unfold Zc2 at he;split at he
 ·rename_i g caps hfo
  split at he
  ·rename_i views hv
   split at he
   ·rename_i hb
    simp only[Bool.and_eq_true] at hb;obtain⟨b1,b2⟩:=hb;obtain rfl:=Option.some.inj he;simp only[AllP] at hp;exact ok_call inv out views news floor tr htr ho hfo hp.1 rfl (Zc7 hv) b2 b1 hp.2.1
   ·simp at he
  ·simp at he
 ·simp at he
def autoCall (P:Program) (h:Hint) (s:Z5) (fo:Operand) (as:Array Operand):Option Eff :=
 match h with
 | .call inv out vk news floor r objs=>Zc2 P rowed inv out vk news floor r objs s fo as
 | .callz inv out vk news floor r objs=>Zc2 P (fun x=>x) inv out vk news floor r objs s fo as
 | _=>none
theorem autoCall_ok {P:Program} {h:Hint} {o:Oper} {s:Z5} {fo:Operand} {as:Array Operand} {ts:Array TypeId} {e:Eff} (ho:o.op = .call { callee:=.value fo,args:=as,argTypes:=ts })
  (he:autoCall P h s fo as=some e) (hp:AllP e.props):OpOK P o (mkSp s o e.keys e.news e.res e.post):=by
 unfold autoCall at he;split at he
 ·exact Zd8 (fun _ _ _ _ _ h=>rowed_rep h) ho he hp
 ·exact Zd8 (fun _ _ _ _ _ h=>h) ho he hp
 ·simp at he
theorem ok_extern {P:Program} {o:Oper} {s:Z5} {fo:Operand} {as:Array Operand} {ts:Array TypeId} {g:Nat} {vs:List Value} (ra:AVal) (r:Value) (ho:o.op = .call { callee:=.value fo,args:=as,argTypes:=ts })
  (hfo:s.eval fo = .im (.sc (.func (.func g) #[] #[]))) (hvs:as.toList.map s.eval=vs.map fun v=>.im (.sc v)) (hr:∀ w I κ,Rep w I κ ra r)
  (hrun:∀ w,(callFunc g vs.toArray).run P w = .ok (.value r) w):OpOK P o (mkSp s o [] [] ra []) :=
 .quiet rfl fun Γ κ I s2 a w hP hrel hn=>by
  have h1:=(opd hrel hn fo (by simp[ho,Op.operands,Call.operands]) hfo).sc_inv;have h2:as.map a.eval=vs.toArray:=by
   rw[← Array.toList_inj];simp only[Array.toList_map];apply List.ext_getElem
   ·have:=congrArg List.length hvs;simpa using this
   ·intro i hi hi'
    have hlen:=congrArg List.length hvs;simp only[List.length_map,Array.length_toList] at hi hlen hi';have:=List.getElem_of_eq hvs (i:=i) (by simpa using hi);simp only[List.getElem_map,Array.getElem_toList] at this;have h3:=opd hrel hn as[i] (by simp[ho,Op.operands,Call.operands]) this;simp only[List.getElem_map,Array.getElem_toList];exact h3.sc_inv
  refine⟨r,?_,hr w I κ⟩;simp only[execOp,ho,resolve,h1,Deferred.ofValue,Sem.run_bind,Sem.run_pure,Result.andThen_ok,invoke,h2];simpa using hrun w
def Zcy:List AVal→Option (List Value)
 | []=>some []
 | .im (.sc v)::r=>match Zcy    r with
  | some l=>some (v::l)
  | none=>none
 | _=>none
theorem Zdy:∀ {l:List AVal} {r:List Value},Zcy l=some r→l=r.map fun v=>.im (.sc v):=by
 intro l
 induction l with
 | nil=>intro r h;obtain rfl:=Option.some.inj h;rfl
 | cons x l ih =>
  intro r h;unfold Zcy at h;split at h
  ·simp at *
  ·rename_i v r' heq
   simp only[List.cons.injEq] at heq;obtain⟨rfl,rfl⟩:=heq;split at h
   ·rename_i l' hl;obtain rfl:=Option.some.inj h;rw[ih hl];rfl
   ·simp at h
  ·simp at h
def scOf:AVal→Option Value
 | .im (.sc v)=>some v
 | .tup l=>match Zcy    l with
  | some vs=>some (.tuple vs.toArray)
  | none=>none
 | _=>none
theorem scOf_rep {x:AVal} {v:Value} (h:scOf x=some v) (w:World) (I:Nat→Prop) (κ:Nat→Option KI):Rep w I κ x v:=by
 unfold scOf at h;split at h
 ·simp at h;subst h;exact .im (.sc _)
 ·rename_i l
  split at h
  ·rename_i vs hvs
   simp at h;subst h;rw[Zdy hvs];exact .tup (by simp) (fun j h h'=>by rw[List.getElem_map];exact .im (.sc _))
  ·simp at h
 ·simp at h
def Zct (P:Program) (s:Z5) (fo:Operand) (as:Array Operand) (ra:AVal):Option Eff :=
 match s.eval fo,Zcy (as.toList.map s.eval),scOf ra with
 | .im (.sc (.func (.func g) ⟨[]⟩ ⟨[]⟩)),some vs,some r=>some ⟨[],[],ra,[],[∀ w,(callFunc g vs.toArray).run P w = .ok (.value r) w]⟩
 | _,_,_=>none
theorem autoExtern_ok {P:Program} {o:Oper} {s:Z5} {fo:Operand} {as:Array Operand} {ts:Array TypeId} {ra:AVal} {e:Eff} (ho:o.op = .call { callee:=.value fo,args:=as,argTypes:=ts })
  (he:Zct P s fo as ra=some e) (hp:AllP e.props):OpOK P o (mkSp s o e.keys e.news e.res e.post):=by
 unfold Zct at he;split at he
 ·rename_i g vs r hfo hvs hr
  obtain rfl:=Option.some.inj he;exact ok_extern ra r ho hfo (Zdy hvs) (scOf_rep hr) hp.1
 ·simp at he
def autoBox (h:Hint) (s:Z5) (t:TypeId) (z:AVal):Option Eff :=
 match h,Z3i (Z17 z) with
 | .k k,true=>some ⟨[],[k],.ptr k 0 0,[(k,some (.box t (Z17 z)))],[]⟩
 | _,_=>none
def Za7:Nat→List (Nat×Operand)→Option (List Operand)
 | _,[]=>some []
 | m,(i,x)::r=>match Nat.beq i m,Za7      (m+1) r with
  | true,some l=>some (x::l)
  | _,_=>none
theorem Zdt:∀ {l:List (Nat×Operand)} {m:Nat} {xs:List Operand},Za7 m l=some xs→l=Z4j m xs:=by
 intro l
 induction l with
 | nil=>intro m xs h;obtain rfl:=Option.some.inj h;rfl
 | cons p l ih =>
  intro m xs h;obtain⟨i,x⟩:=p;simp only[Za7] at h;split at h
  ·rename_i l' h1 h2
   obtain rfl:=Option.some.inj h;rw[Nat.eq_of_beq_eq_true h1,ih h2];rfl
  ·simp at h
def Z8o (P:Program) (h:Hint) (s:Z5) (t:TypeId) (n:Nat) (parts:Array (Nat×Operand)):Option Eff :=
 match h,Z94 P t,Za7 0 parts.toList with
 | .k k,some (e,sz),some xs=>match Z8k    P e,Zcf     s xs with
  | some (by_,sz2),some cs=>match Nat.beq sz2 sz&&Nat.beq n xs.length&&Zfq    sz cs&&Z99       s xs&&Nat.ble (n*sz) (2 ^ 24) with
   | true=>some ⟨[],[k],.own k,[(k,some (.row sz e cs))],[]⟩
   | false=>none
  | _,_=>none
 | .app k es',some (e,sz),some xs=>match Z8k    P e,Zcf     s xs with
  | some (by_,sz2),some cs=>match Nat.beq sz2 sz&&Nat.beq n xs.length&&Zfq    sz cs&&Z99       s xs&&Nat.ble (n*sz) (2 ^ 24) with
   | true=>some ⟨[],[k],.own k,[(k,some (.row sz e es'))],[es'=cs]⟩
   | false=>none
  | _,_=>none
 | _,_,_=>none
theorem Zcu {P:Program} {h:Hint} {o:Oper} {s:Z5} {t:TypeId} {n:Nat} {parts:Array (Nat×Operand)} {e:Eff} (ho:o.op = .buildSlice t n parts) (he:Z8o P h s t n parts=some e) (hp:AllP e.props) :
  OpOK P o (mkSp s o e.keys e.news e.res e.post):=by
 have hparts:∀ xs,Za7 0 parts.toList=some xs→parts=(Z4j 0 xs).toArray:=by
  intro xs hx;rw[← Zdt hx]
 unfold Z8o at he;split at he
 ·rename_i k el sz xs hel hxs
  split at he
  ·rename_i by_ sz2 cs hby hcs
   split at he
   ·rename_i hb
    simp only[Bool.and_eq_true] at hb;obtain⟨⟨⟨⟨b1,b2⟩,b3⟩,b4⟩,b5⟩:=hb;obtain rfl:=Nat.eq_of_beq_eq_true b1;obtain rfl:=Option.some.inj he;exact Zbl k xs cs ho hel hby (hparts xs hxs) (Nat.eq_of_beq_eq_true b2) hcs b3 b4 b5
   ·simp at he
  ·simp at he
 ·rename_i k es' el sz xs hel hxs
  split at he
  ·rename_i by_ sz2 cs hby hcs
   split at he
   ·rename_i hb
    simp only[Bool.and_eq_true] at hb;obtain⟨⟨⟨⟨b1,b2⟩,b3⟩,b4⟩,b5⟩:=hb;obtain rfl:=Nat.eq_of_beq_eq_true b1;obtain rfl:=Option.some.inj he;obtain⟨rfl,_⟩:=hp;exact Zbl k xs _ ho hel hby (hparts xs hxs) (Nat.eq_of_beq_eq_true b2) hcs b3 b4 b5
   ·simp at he
  ·simp at he
 ·simp at he
def moveE (h:Hint) (v:AVal):Eff :=
 match h,v with
 | .b r,.im (.sc (.bool c))=>⟨[],[],.im (.sc (.bool r)),[],[c=r]⟩
 | _,v=>⟨[],[],v,[],[]⟩
theorem moveE_ok {P:Program} {h:Hint} {o:Oper} {s:Z5} {x:Operand} (ho:o.op = .move x∨o.op = .assign x) (hp:AllP (moveE h (s.eval x)).props) :
  OpOK P o (mkSp s o (moveE h (s.eval x)).keys (moveE h (s.eval x)).news (moveE h (s.eval x)).res (moveE h (s.eval x)).post):=by
 have key:=ok_move (P:=P) (s:=s) ho;generalize s.eval x=v at *;unfold moveE at hp ⊢;split
 ·obtain⟨rfl,_⟩:=hp;exact key
 ·exact key
def autoOp1 (P:Program) (h:Hint) (o:Oper) (s:Z5):Option Eff :=
 match o.op with
 | .move x=>some (moveE h (s.eval x))
 | .assign x=>some (moveE h (s.eval x))
 | .pick c x y=>match s.eval c with
  | .im (.sc (.bool b))=>some ⟨[],[],pickA b (s.eval x) (s.eval y),[],[]⟩
  | _=>none
 | .binOp op t x y _=>autoBin P h s op t x y
 | .load t x=>autoLoad P h s t x
 | .store t x y=>Zet P h s t x y
 | .box t x=>autoBox h s t (s.eval x)
 | .alloc t=>match Zf1   P t with
  | some z=>autoBox h s t z
  | none=>none
 | .nilCheck x=>match isPtr (s.eval x) with
  | true=>some ⟨[],[],s.eval x,[],[]⟩
  | false=>none
 | .extract x i=>match s.eval x with
  | .tup l=>match l[i]? with
   | some y=>some ⟨[],[],y,[],[]⟩
   | none=>none
  | _=>none
 | .fieldAddr t x f=>match Zd4    P t f with
  | some (off,_,sz)=>match Nat.blt 0 sz with
   | true=>match s.eval x with
    | .ptr k e j=>some ⟨[],[],.ptr k e (j+off),[],[]⟩
    | .ip cells=>some ⟨[],[],.ip (cells.drop off),[],[]⟩
    | _=>none
   | false=>none
  | none=>none
 | .field t x f=>match Zd4    P t f,s.eval x with
  | some (off,ag,sz),.agg cells=>match Zek    ag off sz cells with
   | some r=>some ⟨[],[],r,[],[]⟩
   | none=>none
  | _,_=>none
 | .index t x i=>match P.underlying t,s.eval x,s.eval i with
  | some .string,.im (.sc (.string str)),.im (.sc (.int _ n))=>some ⟨[],[],.im (.sc (.int .u8 (bt str n))),[],[0≤n,n<(str.size:Int)]⟩
  | _,_,_=>none
 | .indexAddr t x i=>Z9n P h s t x i
 | .slice t x lo hi none=>Zeu P h s t x lo hi
 | .build t parts=>match Zf1   P t,placesP P t with
  | some (.agg z),some places=>match fillA s places z parts.toList with
   | some r=>some ⟨[],[],.agg r,[],[]⟩
   | none=>none
  | _,_=>none
 | .buildSlice t n parts=>Z8o P h s t n parts
 | .unOp .not _ x=>match s.eval x with
  | .im (.sc (.bool a))=>some (scal (Zba h (.bool !a)))
  | _=>none
 | .unOp .neg _ x=>match s.eval x with
  | .im (.sc (.int k a))=>some ⟨[],[],.im (.sc (.int k (k.wrap (0-a)))),[],[]⟩
  | _=>none
 | .convert st t x=>match P.underlying st,P.underlying t,s.eval x with
  | some _,some (.int k'),.im (.sc (.int _ a))=>some ⟨[],[],.im (.sc (.int k' (k'.wrap a))),[],[]⟩
  | _,_,_=>none
 | .call { callee:=.builtin .len,args:=⟨[x]⟩,argTypes:=ts }=>autoLen P h s x ts
 | .call { callee:=.builtin .append,args:=⟨[x,y]⟩,argTypes:=ts }=>Zcv P h s x y ts
 | .call { callee:=.value fo,args:=as,argTypes:=ts }=>match h with
  | .ext ra=>Zct P s fo as ra
  | _=>autoCall P h s fo as
 | _=>none
theorem autoOp1_ok {P:Program} {h:Hint} {o:Oper} {s:Z5} {e:Eff} (he:autoOp1 P h o s=some e) (hp:AllP e.props):OpOK P o (mkSp s o e.keys e.news e.res e.post):=by
 unfold autoOp1 at he;split at he
 ·rename_i x ho;obtain rfl:=Option.some.inj he;exact moveE_ok (.inl ho) hp
 ·rename_i x ho;obtain rfl:=Option.some.inj he;exact moveE_ok (.inr ho) hp
 ·rename_i c x y ho
  split at he
  ·rename_i b hc;obtain rfl:=Option.some.inj he;exact ok_pick ho hc
  ·simp at he
 ·rename_i ho;exact autoBin_ok ho he hp
 ·rename_i ho;exact autoLoad_ok ho he hp
 ·rename_i ho;exact autoStore_ok ho he hp
 ·rename_i t x ho
  unfold autoBox at he;split at he
  ·rename_i k hl;obtain rfl:=Option.some.inj he;exact ok_box k ho hl
  ·simp at he
 ·rename_i t ho
  split at he
  ·rename_i z hz
   unfold autoBox at he;split at he
   ·rename_i k hl;obtain rfl:=Option.some.inj he;exact ok_alloc k ho hz hl
   ·simp at he
  ·simp at he
 ·rename_i x ho
  split at he
  ·rename_i hy;obtain rfl:=Option.some.inj he;exact ok_nilCheck ho rfl hy
  ·simp at he
 ·rename_i x i ho
  split at he
  ·rename_i l hx
   split at he
   ·rename_i y hy;obtain rfl:=Option.some.inj he;exact ok_extract ho hx hy
   ·simp at he
  ·simp at he
 ·rename_i t x f ho
  split at he
  ·rename_i off ag sz hf
   split at he
   ·rename_i hb
    have h0:0<sz:=by simpa[Nat.blt_eq] using hb
    split at he
    ·rename_i k e' j hx;obtain rfl:=Option.some.inj he;exact Zdd ho hx hf h0
    ·rename_i cells hx;obtain rfl:=Option.some.inj he;exact Zea ho hx hf h0
    ·simp at he
   ·simp at he
  ·simp at he
 ·rename_i t x f ho
  split at he
  ·rename_i off ag sz cells hf hx
   split at he
   ·rename_i r hr;obtain rfl:=Option.some.inj he;exact ok_field ho hx hf hr
   ·simp at he
  ·simp at he
 ·rename_i t x i ho
  split at he
  ·rename_i ht hx hi;obtain rfl:=Option.some.inj he;exact Ze8 ho ht hx hi hp.1 hp.2.1
  ·simp at he
 ·rename_i ho;exact Zdf ho he hp
 ·rename_i ho;exact autoSlice_ok ho he hp
 ·rename_i t parts ho
  split at he
  ·rename_i z places hz hpl
   split at he
   ·rename_i r hr;obtain rfl:=Option.some.inj he;exact ok_build ho hz hpl hr
   ·simp at he
  ·simp at he
 ·rename_i ho;exact Zcu ho he hp
 ·rename_i t x ho
  split at he
  ·rename_i a hx;obtain rfl:=Option.some.inj he
   have:=ok_not (P:=P) ho hx;simp only[scal] at hp ⊢;rw[Zaj hp];exact this
  ·simp at he
 ·rename_i t x ho
  split at he
  ·rename_i k a hx;obtain rfl:=Option.some.inj he;exact ok_neg ho hx
  ·simp at he
 ·rename_i st t x ho
  split at he
  ·rename_i hs ht hx;obtain rfl:=Option.some.inj he;exact ok_conv ho hs ht hx
  ·simp at he
 ·rename_i ho;exact autoLen_ok ho he hp
 ·rename_i ho;exact autoAppend_ok ho he hp
 ·rename_i ho
  split at he
  ·exact autoExtern_ok ho he hp
  ·exact autoCall_ok ho he hp
 ·simp at he
def autoOp (P:Program) (h:Hint) (o:Oper) (s:Z5):Option Eff :=
 match h with
 | .more x=>x.f P o s
 | h=>autoOp1 P h o s
theorem Zev {P:Program} {h:Hint} {o:Oper} {s:Z5} {e:Eff} (he:autoOp P h o s=some e) (hp:AllP e.props):OpOK P o (mkSp s o e.keys e.news e.res e.post):=by
 unfold autoOp at he;split at he
 ·rename_i x;exact x.ok _ _ _ _ he hp
 ·exact autoOp1_ok he hp
def goesA (ops:Array Oper) (o:Oper) (s:Z5):Option Bool :=
 match o.guard with
 | none=>some true
 | some (j,want)=>match (ops[j]?).bind (·.dst) with
  | some d=>match s.get d with
   | .im (.sc (.bool b))=>match b,want with
    | true,true=>some true
    | false,false=>some true
    | true,false=>some false
    | false,true=>some false
   | .im (.sc (.tuple _))=>some false
   | _=>none
  | none=>none
theorem goesA_ok {ops:Array Oper} {o:Oper} {s:Z5} {g:Bool} (h:goesA ops o s=some g):goes ops o s g:=by
 unfold goesA at h;unfold goes;split at h
 ·rename_i e;rw[e];exact(Option.some.inj h).symm
 ·rename_i j want e
  rw[e];split at h
  ·rename_i d hd
   split at h
   ·rename_i b hb
    refine⟨d,_,hd,hb,?_⟩;split at h<;>simp at h<;>subst h<;>rfl
   ·rename_i vs hb
    simp at h;subst h;exact⟨d,_,hd,hb,rfl⟩
   ·simp at h
  ·simp at h
def freshB (s:Z5) (k:Nat):Bool :=
 s.slots.all (fun p => !(p.2.has k))&&s.objs.all (fun p=>match p.2 with | some o => !(o.has k) | none=>true)&&(s.obj k).isNone&&Nat.ble s.floor k
theorem Zej {s:Z5} {k:Nat} (h:freshB s k=true):s.fresh k:=by
 simp only[freshB,Bool.and_eq_true] at h;obtain⟨⟨⟨h1,h2⟩,h3⟩,h4⟩:=h;refine⟨fun x => ?_,fun k' o ho => ?_,by simpa using h3,Nat.le_of_ble_eq_true h4⟩
 ·unfold     Z5.get
  cases e:look s.slots x with
  | none=>rfl
  | some v=>have:=List.all_eq_true.1 h1 _ (Z4e e);simpa using this
 ·unfold     Z5.obj at ho
  cases e:look s.objs k' with
  | none=>rw[e] at ho;simp at ho
  | some v =>
   rw[e] at ho;have hv:v=some o:=ho;subst hv;have:=List.all_eq_true.1 h2 _ (Z4e e);simpa using this
def dstB (n:Nat) (o:Oper):Bool:=match o.dst with
 | some d=>Nat.blt d n
 | none=>true
def hintAt (hints:List (Nat×Hint)) (i:Nat):Hint:=(look hints i).getD .none
def Ze0 (P:Program) (n:Nat) (ops:Array Oper) (hints:List (Nat×Hint)):List Oper→Nat→Z5→Option (List Item×Z5×List Prop)
 | [],_,s=>some ([],s,[])
 | o::r,i,s=>match dstB n o with
  | false=>none
  | true=>match goesA ops o s with
   | some false=>match Ze0    P n ops hints r (i+1) (s.put o.dst (.im (.sc undef))) with
    | some (its,s',ps)=>some ((o,.skip)::its,s',ps)
    | none=>none
   | some true=>match autoOp P (hintAt hints i) o s with
    | some e=>match e.news.all (freshB s) with
     | true=>match Ze0    P n ops hints r (i+1) ((s.objput e.post).put o.dst e.res) with
      | some (its,s',ps)=>some ((o,.run (mkSp s o e.keys e.news e.res e.post))::its,s',e.props++ps)
      | none=>none
     | false=>none
    | none=>none
   | none=>none
theorem AllP_append {l r:List Prop} (h:AllP (l++r)):AllP l∧AllP r:=by
 induction l with
 | nil=>exact⟨trivial,h⟩
 | cons p l ih=>exact⟨⟨h.1,(ih h.2).1⟩,(ih h.2).2⟩
theorem runOps_ok {P:Program} {n:Nat} {ops:Array Oper} {hints:List (Nat×Hint)}:∀ {l:List Oper} {i:Nat} {s s':Z5} {its:List Item} {ps:List Prop},Ze0 P n ops hints l i s=some (its,s',ps)→AllP ps →
  its.map (·.1)=l∧Z8e P ops its s∧Z67 its s=s'∧its.all (fun it=>match it.1.dst with | some d=>Nat.blt d n | none=>true)=true:=by
 intro l
 induction l with
 | nil =>
  intro i s s' its ps h _;simp[Ze0] at h;obtain⟨rfl,rfl,rfl⟩:=h;exact⟨rfl,trivial,rfl,rfl⟩
 | cons o r ih =>
  intro i s s' its ps h hp;unfold Ze0 at h;split at h
  ·simp at h
  ·rename_i hd
   split at h
   ·rename_i hg
    split at h
    ·rename_i its' s'' ps' hr
     simp at h;obtain⟨rfl,rfl,rfl⟩:=h;obtain⟨g1,g2,g3,g4⟩:=ih hr hp;refine⟨by simp[g1],⟨goesA_ok hg,fun k hk=>by simp[Item.news] at hk,g2⟩,g3,?_⟩;simp only[List.all_cons,Bool.and_eq_true];exact⟨hd,g4⟩
    ·simp at h
   ·rename_i hg
    split at h
    ·rename_i e he
     split at h
     ·rename_i hf
      split at h
      ·rename_i its' s'' ps' hr
       simp at h;obtain⟨rfl,rfl,rfl⟩:=h;obtain⟨p1,p2⟩:=AllP_append hp;obtain⟨g1,g2,g3,g4⟩:=ih hr p2;refine⟨by simp[g1],⟨⟨goesA_ok hg,mkSp_needs ..,Zev he p1⟩,fun k hk=>Zej (List.all_eq_true.1 hf k hk),g2⟩,g3,?_⟩;simp only[List.all_cons,Bool.and_eq_true];exact⟨hd,g4⟩
      ·simp at h
     ·simp at h
    ·simp at h
   ·simp at h
def Zab (live keeps:List Nat) (s:Z5):Z5:=⟨live.map fun i=>(i,s.get i),keeps.map fun k=>(k,s.obj k),s.floor⟩
theorem look_map {α:Type} (f:Nat→α):∀ (l:List Nat) (x:Nat) (v:α),look (l.map fun i=>(i,f i)) x=some v→v=f x:=by
 intro l x v h;obtain⟨i,_,e⟩:=List.mem_map.1 (Z4e h);simp at e;rw[← e.1];exact e.2.symm
theorem restrict_sat {Γ:Ctx} {s:Z5} {a:Act} {w:World} (h:Sat Γ s a w) (live keeps:List Nat):Sat Γ (Zab live keeps s) a w:=by
 refine h.weaken (fun x => ?_) (fun k o hk => ?_) rfl
 ·simp only[    Z5.get,Zab     ]
  cases e:look (live.map fun i=>(i,(look s.slots i).getD .top)) x with
  | none=>left;rfl
  | some v=>right;rw[look_map (fun i=>(look s.slots i).getD .top) live x v e];rfl
 ·simp only[    Z5.obj,Zab     ] at hk
  cases e:look (keeps.map fun k=>(k,(look s.objs k).getD none)) k with
  | none=>rw[e] at hk;simp at hk
  | some v=>rw[e] at hk;have:=look_map (fun i=>(look s.objs i).getD none) keeps k v e;subst this;exact hk
def newsAll (its:List Item) (s:Z5):Bool:=its.all fun it=>it.news.all (freshB s)
def Z6q (P:Program) (n:Nat) (draw:Bool) (ops:List Oper) (hints:List (Nat×Hint)) (live keeps:List Nat) (s:Z5):Option (Z5×List Prop) :=
 match Ze0 P n ops.toArray hints ops 0 s with
 | some (its,s',ps)=>match draw with
  | false=>some (Zab live keeps s',ps)
  | true=>match Z9z    ops.toArray (Zb3   ops []) [] its&&newsAll its s with
   | true=>some (Zab live keeps s',ps)
   | false=>none
 | none=>none
theorem AWp.weaken {Γ:Ctx} {c:Code} {Q:Exit→Z5→Prop} {s s':Z5} (h:AWp Γ c Q s') (hs:∀ a w,Sat Γ s a w→Sat Γ s' a w):AWp Γ c Q s:=fun a w h'=>h a w (hs a w h')
theorem AWp.region {Γ:Ctx} {id:Nat} {draw:Bool} {Q:Exit→Z5→Prop} {s:Z5} {ops:List Oper} (hints:List (Nat×Hint)) (live keeps:List Nat) (s':Z5) (ps:List Prop)
  (hm:Γ.P.follows .mixedOrders=true) (h:Z6q Γ.P Γ.n draw ops hints live keeps s=some (s',ps)) (hp:AllP ps) (hq:Q .normal s'):AWp Γ (.region id ops.toArray draw) Q s:=by
 unfold Z6q at h;split at h
 ·rename_i its s2 ps2 hr
  have key:∀ ps',AllP ps'→ps'=ps2→its.map (·.1)=ops∧Z8e Γ.P ops.toArray its s∧Z67 its s=s2∧its.all (fun it=>match it.1.dst with | some d=>Nat.blt d Γ.n | none=>true)=true :=
   fun ps' hp' e=>runOps_ok hr (e ▸ hp')
  have fin:s'=Zab live keeps s2→ps=ps2→(draw=true→Z9z ops.toArray (Zb3 ops []) [] its=true∧newsAll its s=true)→AWp Γ (.region id ops.toArray draw) Q s:=by
   intro e1 e2 hdraw;obtain⟨g1,g2,g3,g4⟩:=key ps hp e2;have hq':∀ a w,Sat Γ s2 a w→∃ s3,Sat Γ s3 a w∧Q .normal s3:=fun a w h=>⟨s',e1 ▸ restrict_sat h live keeps,hq⟩
   subst g1;cases draw with
   | false =>
    intro a w hs;exact Code.wp_mono (fun e a w ⟨s3,h1,h2⟩=>by
     cases e with
     | normal=>simp only at h2;subst h2;exact hq' a w (g3 ▸ h1)
     | _=>exact h2.elim) (Zcz (Q:=fun e s3=>match e with | .normal=>s3=Z67 its s | _=>False) its g4 g2 rfl a w hs)
   | true =>
    obtain⟨d1,d2⟩:=hdraw rfl;have hf:∀ it∈its,∀ k∈it.news,s.fresh k:=fun it hit k hk=>Zej (List.all_eq_true.1 (List.all_eq_true.1 d2 it hit) k hk)
    intro a w hs;exact Code.wp_mono (fun e a w ⟨s3,h1,h2⟩=>by
     cases e with
     | normal=>simp only at h2;subst h2;exact hq' a w (g3 ▸ h1)
     | _=>exact h2.elim) (Ze3 (Q:=fun e s3=>match e with | .normal=>s3=Z67 its s | _=>False) hm its g4 d1 g2 hf rfl a w hs)
  split at h
  ·simp at h;exact fin h.1.symm h.2.symm (fun e=>by simp at e)
  ·split at h
   ·rename_i hb
    simp only[Bool.and_eq_true] at hb;simp at h;exact fin h.1.symm h.2.symm (fun _=>hb)
   ·simp at h
 ·simp at h
mutual
def Z6o (inv:List (Nat×Nat)) (views:List (Nat×List (List Im))) (e0:List Nat):AVal→AVal→AVal
 | .own k,.none0=>match isIn k e0 with
  | true=>.own k
  | false=>.none0
 | .im _,.none0=>.im (.row [])
 | .top,_=>.top
 | .agg ys,.agg xs=>.agg (Z6d inv views e0 ys xs)
 | _,x=>pass inv views x
def Z6d (inv:List (Nat×Nat)) (views:List (Nat×List (List Im))) (e0:List Nat):List AVal→List AVal→List AVal
 | y::ys,x::xs=>Z6o inv views e0 y x::Z6d inv views e0 ys xs
 | _,[]=>[]
 | [],x::xs=>pass inv views x::Z6d inv views e0 [] xs
end
theorem Zcq {inv:List (Nat×Nat)} {views:List (Nat×List (List Im))} {e0:List Nat}:∀ (xs ys:List AVal),(Z6d inv views e0 ys xs).length=xs.length ∧
  ∀ j (h:j<xs.length) (h':j<(Z6d inv views e0 ys xs).length),(∃ y,(Z6d inv views e0 ys xs)[j]=Z6o inv views e0 y (xs[j])):=by
 intro xs
 induction xs with
 | nil=>intro ys;cases ys<;>exact⟨by simp[Z6d],fun j h=>absurd h (Nat.not_lt_zero _)⟩
 | cons x xs ih =>
  intro ys;have hpass:∀ x,∃ y,pass inv views x=Z6o inv views e0 y x:=fun x=>by
   cases x with
   | none0=>exact⟨.none0,by simp[Z6o]⟩
   | agg l=>exact⟨.none0,by simp[Z6o]⟩
   | _=>exact⟨.none0,by simp[Z6o]⟩
  cases ys with
  | nil =>
   obtain⟨h1,h2⟩:=ih [];refine⟨by simp[Z6d,h1],fun j h h' => ?_⟩;cases j with
   | zero=>simp only[Z6d,List.getElem_cons_zero];exact hpass x
   | succ j=>simp only[Z6d,List.getElem_cons_succ];exact h2 j (by simpa using h) (by simpa[Z6d] using h')
  | cons y ys =>
   obtain⟨h1,h2⟩:=ih ys;refine⟨by simp[Z6d,h1],fun j h h' => ?_⟩;cases j with
   | zero=>exact⟨y,by simp[Z6d]⟩
   | succ j=>simp only[Z6d,List.getElem_cons_succ];exact h2 j (by simpa using h) (by simpa[Z6d] using h')
theorem Zen {w:World} {I I':Nat→Prop} {κ κ':Nat→Option KI} {inv:List (Nat×Nat)} {views:List (Nat×List (List Im))} {e0:List Nat} (hI:∀ b,I b→I' b)
  (hinv:∀ k kc,look inv k=some kc→κ' kc=κ k) (hv:∀ k es,look views k=some es→(∃ sz el,OAt w I κ k (.row sz el es))∧∀ ki,κ k=some ki→I' ki.b)
  (he0:∀ k,isIn k e0=true→κ' k=none) {x:AVal} {v:Value} (h:Rep w I κ x v):∀ y,Rep w I' κ' (Z6o inv views e0 y x) v:=by
 induction h with
 | @agg cells vs hl hr ih =>
  intro y;cases y with
  | agg ys =>
   simp only[Z6o];obtain⟨h1,h2⟩:=Zcq (inv:=inv) (views:=views) (e0:=e0) cells ys;refine .agg (by rw[h1];exact hl) (fun j h h' => ?_);obtain⟨y,e⟩:=h2 j (by omega) h;rw[e];exact ih j (by omega) h' y
  | top=>exact .top _
  | _=>simp only[Z6o];exact Z4d hI hinv hv (.agg hl hr)
 | none0 base =>
  intro y;cases y with
  | own k =>
   simp only[Z6o];cases e:isIn k e0 with
   | true=>exact .own0 base (he0 k e)
   | false=>exact .none0 base
  | im x=>simp only[Z6o];exact .im (.row0 base 0)
  | top=>exact .top _
  | _=>simp only[Z6o,pass];exact .none0 base
 | top v=>intro y;cases y<;>simp only[Z6o,pass]<;>exact .top _
 | im h=>intro y;cases y<;>simp only[Z6o]<;>first | exact .top _ | exact Z4d hI hinv hv (.im h)
 | own0 base e=>intro y;cases y<;>simp only[Z6o]<;>first | exact .top _ | exact Z4d hI hinv hv (.own0 base e)
 | own e=>intro y;cases y<;>simp only[Z6o]<;>first | exact .top _ | exact Z4d hI hinv hv (.own e)
 | mown e=>intro y;cases y<;>simp only[Z6o]<;>first | exact .top _ | exact Z4d hI hinv hv (.mown e)
 | cut0 base e=>intro y;cases y<;>simp only[Z6o]<;>first | exact .top _ | exact Z4d hI hinv hv (.cut0 base e)
 | cut e h1 h2=>intro y;cases y<;>simp only[Z6o]<;>first | exact .top _ | exact Z4d hI hinv hv (.cut e h1 h2)
 | sub0 base e=>intro y;cases y<;>simp only[Z6o]<;>first | exact .top _ | exact Z4d hI hinv hv (.sub0 base e)
 | sub e h1 h2 h3=>intro y;cases y<;>simp only[Z6o]<;>first | exact .top _ | exact Z4d hI hinv hv (.sub e h1 h2 h3)
 | ptr e=>intro y;cases y<;>simp only[Z6o]<;>first | exact .top _ | exact Z4d hI hinv hv (.ptr e)
 | ip u hb hc hr=>intro y;cases y<;>simp only[Z6o]<;>first | exact .top _ | exact Z4d hI hinv hv (.ip u hb hc hr)
 | tup hl hr ih=>intro y;cases y<;>simp only[Z6o]<;>first | exact .top _ | exact Z4d hI hinv hv (.tup hl hr)
 | fn hl hr ih=>intro y;cases y<;>simp only[Z6o]<;>first | exact .top _ | exact Z4d hI hinv hv (.fn hl hr)
def Z69 (inv:List (Nat×Nat)) (views:List (Nat×List (List Im))) (e0:List Nat):List (List AVal)→List (List AVal)→List (List AVal)
 | y::ys,x::xs=>Z6d inv views e0 y x::Z69 inv views e0 ys xs
 | _,[]=>[]
 | [],x::xs=>Z6d inv views e0 [] x::Z69 inv views e0 [] xs
theorem convTLL_get {inv:List (Nat×Nat)} {views:List (Nat×List (List Im))} {e0:List Nat}:∀ (xs ys:List (List AVal)),(Z69 inv views e0 ys xs).length=xs.length ∧
  ∀ j (h:j<xs.length) (h':j<(Z69 inv views e0 ys xs).length),(∃ y,(Z69 inv views e0 ys xs)[j]=Z6d inv views e0 y (xs[j])):=by
 intro xs
 induction xs with
 | nil=>intro ys;cases ys<;>exact⟨by simp[Z69],fun j h=>absurd h (Nat.not_lt_zero _)⟩
 | cons x xs ih =>
  intro ys;cases ys with
  | nil =>
   obtain⟨h1,h2⟩:=ih [];refine⟨by simp[Z69,h1],fun j h h' => ?_⟩;cases j with
   | zero=>exact⟨[],by simp[Z69]⟩
   | succ j=>simp only[Z69,List.getElem_cons_succ];exact h2 j (by simpa using h) (by simpa[Z69] using h')
  | cons y ys =>
   obtain⟨h1,h2⟩:=ih ys;refine⟨by simp[Z69,h1],fun j h h' => ?_⟩;cases j with
   | zero=>exact⟨y,by simp[Z69]⟩
   | succ j=>simp only[Z69,List.getElem_cons_succ];exact h2 j (by simpa using h) (by simpa[Z69] using h')
def datL:List AVal→Option (List Im)
 | []=>some []
 | .im x::r=>match datL r with
  | some l=>some (x::l)
  | none=>none
 | _=>none
def datLL:List (List AVal)→Option (List (List Im))
 | []=>some []
 | g::r=>match datL g,datLL r with
  | some c,some l=>some (c::l)
  | _,_=>none
theorem datL_eq:∀ {l:List AVal} {c:List Im},datL l=some c→l=c.map .im:=by
 intro l
 induction l with
 | nil=>intro c h;obtain rfl:=Option.some.inj h;rfl
 | cons x r ih =>
  intro c h;cases x with
  | im x =>
   simp only[datL] at h;split at h
   ·rename_i l e;obtain rfl:=Option.some.inj h;rw[List.map_cons,← ih e]
   ·simp at h
  | _=>simp[datL] at h
theorem datLL_eq:∀ {l:List (List AVal)} {c:List (List Im)},datLL l=some c→l=imL c:=by
 intro l
 induction l with
 | nil=>intro c h;obtain rfl:=Option.some.inj h;rfl
 | cons x r ih =>
  intro c h;simp only[datLL] at h;split at h
  ·rename_i d l e1 e2
   obtain rfl:=Option.some.inj h;show x::r=d.map .im::imL l;rw[← datL_eq e1,← ih e2]
  ·simp at h
def tailOf:MObj→List (List AVal)
 | .arow _ _ _ fs=>fs
 | _=>[]
def keepOf:MObj→Option Nat
 | .arow _ _ _ fs=>some fs.length
 | .row _ _ _=>some 0
 | _=>none
def rowOf:MObj→Bool
 | .row _ _ _=>true
 | _=>false
def convA (sz el:Nat) (es:List (List Im)) (fs:List (List AVal)) (keep:Option Nat) (row:Bool):MObj :=
 match keep with
 | none=>.arow sz el es fs
 | some n=>match fs.length-n with
  | 0=>match row,fs with
   | true,[]=>.row sz el es
   | _,_=>.arow sz el es fs
  | d+1=>match datLL (fs.take (d+1)) with
   | none=>.arow sz el es fs
   | some c=>match row,fs.drop (d+1) with
    | true,[]=>.row sz el (es++c)
    | _,gs=>.arow sz el (es++c) gs
theorem ARow.toRow {w:World} {I:Nat→Prop} {κ:Nat→Option KI} {ki:KI} {sz el:Nat} {es:List (List Im)} (h:ARow w I κ ki sz el (imL es)):ORep w I κ ki (.row sz el es):=by
 obtain⟨h1,h2,h3,arr,h4,h5,h6⟩:=h;rw[Z3s] at h2 h3;refine⟨h1,h2,h3,arr,h4,h5,fun i hi => ?_⟩;obtain⟨g1,g2⟩:=h6 i (by rw[Z3s];exact hi);simp only[imL_get,List.length_map] at g1 g2;refine⟨g1,fun j hj => ?_⟩;obtain⟨v,e,r⟩:=g2 j hj;simp only[List.getElem_map] at r;cases r with
 | im r=>exact⟨v,e,r⟩
theorem imL_append (a b:List (List Im)):imL (a++b)=imL a++imL b:=List.map_append ..
theorem convA_ok {w:World} {I:Nat→Prop} {κ:Nat→Option KI} {ki:KI} {sz el:Nat} {es:List (List Im)} {fs:List (List AVal)} {keep:Option Nat} {row:Bool} (h:ARow w I κ ki sz el (imL es++fs)):ORep w I κ ki (convA sz el es fs keep row):=by
 unfold convA;split
 ·exact h
 ·rename_i n
  split
  ·split
   ·rw[List.append_nil] at h;exact ARow.toRow h
   ·exact h
  ·rename_i d _
   split
   ·exact h
   ·rename_i c hc
    have e:=datLL_eq hc;have e2:imL es++fs=imL (es++c)++fs.drop (d+1):=by rw[imL_append,← e,List.append_assoc,List.take_append_drop]
    split
    ·rename_i hd
     rw[hd,List.append_nil] at e2;exact ARow.toRow (e2 ▸ h)
    ·show ARow w I κ ki sz el (imL (es++c)++fs.drop (d+1));rw[← e2];exact h
def convO (inv:List (Nat×Nat)) (views:List (Nat×List (List Im))) (e0:List Nat):MObj→MObj→MObj
 | .box _ ys,.box el xs=>.box el (Z6d inv views e0 ys xs)
 | _,.row sz el es=>.row sz el es
 | _,.box el xs=>.box el (Z6d inv views e0 [] xs)
 | _,.map es=>.map es
 | _,.iter m n sn=>.iter (m.bind (look inv)) n sn
 | y,.arow sz el es fs=>convA sz el es (Z69 inv views e0 (tailOf y) fs) (keepOf y) (rowOf y)
def emptyRow:MObj→Bool
 | .row _ _ []=>true
 | _=>false
def Z9k (s:Z5) (inv:List (Nat×Nat)) (views:List (Nat×List (List Im))) (e0:List Nat):List (Nat×Option MObj)→Option (List (Nat×Option MObj))
 | []=>some []
 | (kc,some o)::r=>match isIn kc e0&&emptyRow o,Z9k      s inv views e0 r with
  | true,some l=>some ((kc,some o)::l)
  | false,some l=>match look (Zaw   inv) kc with
   | some k=>match s.obj k with
    | some os=>some ((kc,some (convO inv views e0 o os))::l)
    | none=>none
   | none=>none
  | _,none=>none
 | (kc,none)::r=>match Z9k      s inv views e0 r with
  | some l=>some ((kc,none)::l)
  | none=>none
def Zfj (s:Z5) (inv:List (Nat×Nat)) (views:List (Nat×List (List Im))) (e0:List Nat):Bool :=
 Zaq.distinct (inv.map (·.1))&&Zaq.distinct (inv.map (·.2))&&apart (inv.map (·.1)) (views.map (·.1))&&apart e0 (inv.map (·.2))&&e0.all (fun k=>Nat.ble s.floor k) &&
 inv.all (fun p=>Nat.beq p.1 p.2||Nat.ble s.floor p.2)
def Zeo (s:Z5) (inv:List (Nat×Nat)) (vk e0:List Nat) (t:Z5):Option Z5 :=
 match Zc8 s vk with
 | some views=>match Zfj        s inv views e0,Z9k      s inv views e0 t.objs with
  | true,some objs=>some ⟨t.slots.map fun p=>(p.1,Z6o inv views e0 p.2 (s.get p.1)),objs,s.floor⟩
  | _,_=>none
 | none=>none
theorem look_map2 {α β:Type} (f:Nat→α→β):∀ (l:List (Nat×α)) (x:Nat) (v:β),look (l.map fun p=>(p.1,f p.1 p.2)) x=some v→∃ u,v=f x u:=by
 intro l x v h;obtain⟨p,_,e⟩:=List.mem_map.1 (Z4e h);simp at e;exact⟨p.2,by rw[← e.2,e.1]⟩
theorem Sat.conv {Γ:Ctx} {s t t':Z5} {a:Act} {w:World} (inv:List (Nat×Nat)) (vk e0:List Nat) (h:Zeo s inv vk e0 t=some t') (hs:Sat Γ s a w):Sat Γ t' a w:=by
 unfold Zeo at h;split at h
 ·rename_i views hviews
  split at h
  ·rename_i objs hk hobjs
   obtain rfl:=Option.some.inj h;obtain⟨κ,I,hr⟩:=hs;simp only[Zfj,Bool.and_eq_true] at hk;obtain⟨⟨⟨⟨⟨k1,k2⟩,k3⟩,k4⟩,k5⟩,k6⟩:=hk;rw[Zd5] at k1 k2;rw[Zc3] at k3 k4;have hk2':((Zaw inv).map (·.1)).Nodup:=by simpa[Zaw,Function.comp_def] using k2
   have hvo:=Zc7 hviews
   let κ':Nat→Option KI:=fun k=>match isIn k e0 with
    | true=>none
    | false=>match look (Zaw   inv) k with
     | some k0=>κ k0
     | none=>κ k
   let I':Nat→Prop:=fun b=>I b∨∃ k es ki,look views k=some es∧κ k=some ki∧ki.b=b
   have hI:∀ b,I b→I' b:=fun b h=>.inl h
   have hview:∀ k es,look views k=some es→∃ sz el,s.obj k=some (.row sz el es):=fun k es h=>hvo _ (Z4e h)
   have hv:∀ k es,look views k=some es→(∃ sz el,OAt w I κ k (.row sz el es))∧∀ ki,κ k=some ki→I' ki.b:=by
    intro k es h;obtain⟨sz,el,e⟩:=hview k es h;exact⟨⟨sz,el,hr.inv.objs k _ e⟩,fun ki hκ=>.inr ⟨k,es,ki,h,hκ,rfl⟩⟩
   have hnote0:∀ k kc,(k,kc)∈inv→isIn kc e0=false:=by
    intro k kc hm;cases e:isIn kc e0 with
    | false=>rfl
    | true=>exact absurd (List.mem_map.2 ⟨(k,kc),hm,rfl⟩) (k4 kc (Zae.1 e))
   have hinvm:∀ k kc,(k,kc)∈inv→κ' kc=κ k:=by
    intro k kc hm;have h1:look (Zaw inv) kc=some k:=Z57 hk2' (List.mem_map.2 ⟨(k,kc),hm,rfl⟩);simp only[κ',hnote0 k kc hm,h1]
   have hinv:∀ k kc,look inv k=some kc→κ' kc=κ k:=fun k kc h=>hinvm k kc (Z4e h)
   have he0:∀ k,isIn k e0=true→κ' k=none:=fun k h=>by simp only[κ',h]
   have hobj:∀ (l l':List (Nat×Option MObj)),Z9k s inv views e0 l=some l'→∀ kc o',(kc,some o')∈l'→(isIn kc e0=true∧emptyRow o'=true)∨∃ k o y,(k,kc)∈inv∧s.obj k=some o∧o'=convO inv views e0 y o:=by
    intro l
    induction l with
    | nil=>intro l' h kc o' hm;simp[Z9k] at h;subst h;simp at hm
    | cons p l ih =>
     intro l' h kc o' hm;obtain⟨kp,op⟩:=p;cases op with
     | none =>
      simp only[Z9k] at h;split at h
      ·rename_i l2 h2
       obtain rfl:=Option.some.inj h;rcases List.mem_cons.1 hm with h3 | h3
       ·simp at h3
       ·exact ih l2 h2 kc o' h3
      ·simp at h
     | some o =>
      simp only[Z9k] at h;split at h
      ·rename_i l2 hb h2
       obtain rfl:=Option.some.inj h;simp only[Bool.and_eq_true] at hb;rcases List.mem_cons.1 hm with h3 | h3
       ·simp at h3;obtain⟨rfl,rfl⟩:=h3;exact .inl hb
       ·exact ih l2 h2 kc o' h3
      ·rename_i l2 hb h2
       split at h
       ·rename_i k hk
        split at h
        ·rename_i os hos
         obtain rfl:=Option.some.inj h;rcases List.mem_cons.1 hm with h3 | h3
         ·simp at h3;obtain⟨rfl,rfl⟩:=h3
          obtain⟨p,hp,hpe⟩:=List.mem_map.1 (Z4e hk);simp at hpe;obtain⟨rfl,rfl⟩:=hpe;exact .inr ⟨p.1,os,o,hp,hos,rfl⟩
         ·exact ih l2 h2 kc o' h3
        ·simp at h
       ·simp at h
      ·simp at h
   have hobj':∀ kc o',(⟨t.slots.map fun p=>(p.1,Z6o inv views e0 p.2 (s.get p.1)),objs,s.floor⟩:Z5).obj kc=some o' →
     (isIn kc e0=true∧emptyRow o'=true)∨∃ k o y,(k,kc)∈inv∧s.obj k=some o∧o'=convO inv views e0 y o:=by
    intro kc o' h;simp only[Z5.obj] at h;cases e:look objs kc with
    | none=>rw[e] at h;simp at h
    | some ov=>rw[e] at h;have:ov=some o':=h;subst this;exact hobj _ _ hobjs kc o' (Z4e e)
   have hnv:∀ k kc,(k,kc)∈inv→look views k=none:=fun k kc hm=>Zbn (fun h=>k3 k (List.mem_map.2 ⟨_,hm,rfl⟩) h)
   refine⟨κ',I',hr.size,hr.defers,fun x => ?_,?_,?_,?_,?_,hr.inv.keep,fun b h=>.inl (hr.inv.ikeep b h),?_,?_,?_⟩
   ·show Rep w I' κ' ((look (t.slots.map fun p=>(p.1,Z6o   inv views e0 p.2 (s.get p.1))) x).getD .top) _
    cases e:look (t.slots.map fun p=>(p.1,Z6o inv views e0 p.2 (s.get p.1))) x with
    | none=>exact .top _
    | some y =>
     obtain⟨u,rfl⟩:=look_map2 (fun i u=>Z6o inv views e0 u (s.get i)) t.slots x y e;exact Zen hI hinv hv he0 (hr.slots x) u
   ·intro kc o' h
    rcases hobj' kc o' h with ⟨h1,h2⟩ | ⟨k,o,y,hm,ho,rfl⟩
    ·simp only[OAt,he0 kc h1]
     cases o' with
     | row sz el es=>cases es with
      | nil=>exact⟨sz,el,rfl⟩
      | cons=>simp[emptyRow] at h2
     | box=>simp[emptyRow] at h2
     | map=>simp[emptyRow] at h2
     | iter=>simp[emptyRow] at h2
     | arow=>simp[emptyRow] at h2
    ·have:=hr.inv.objs k o ho
     unfold OAt at this ⊢;rw[hinvm k kc hm];cases eκ:κ k with
     | none=>rw[eκ] at this;obtain⟨sz,el,rfl⟩:=this;exact⟨sz,el,by cases y<;>rfl⟩
     | some ki =>
      rw[eκ] at this;cases o with
      | row sz el es =>
       have hrow:convO inv views e0 y (.row sz el es) = .row sz el es:=by cases y<;>rfl
       rw[hrow];obtain⟨h1,h2,h3,arr,h4,h5,h6⟩:=this;exact⟨h1,h2,h3,arr,h4,h5,fun i hi=>⟨(h6 i hi).1,fun j hj=>let ⟨u,a,b⟩:=(h6 i hi).2 j hj;⟨u,a,b.mono hI (fun _ _=>rfl)⟩⟩⟩
      | box el cells =>
       obtain⟨ys,hbox⟩:∃ ys,convO inv views e0 y (.box el cells) = .box el (Z6d inv views e0 ys cells):=by cases y with | box _ ys=>exact⟨ys,rfl⟩ | _=>exact⟨[],rfl⟩
       rw[hbox];obtain⟨h1,h2,arr,h4,h5,h6⟩:=this;obtain⟨g1,g2⟩:=Zcq (inv:=inv) (views:=views) (e0:=e0) cells ys;refine⟨h1,by rw[g1];exact h2,arr,h4,by rw[g1];exact h5,fun j hj => ?_⟩;obtain⟨u,a,b⟩:=h6 j (by omega);obtain⟨y',e⟩:=g2 j (by omega) hj;exact⟨u,a,by rw[e];exact Zen hI hinv hv he0 b y'⟩
      | map es =>
       have hmap:convO inv views e0 y (.map es) = .map es:=by cases y<;>rfl
       rw[hmap];obtain⟨arr,h1,h2,h3⟩:=this;exact⟨arr,h1,h2,fun i hi=>let ⟨e,g1,g2,g3,g4⟩:=h3 i hi;⟨e,g1,g2,g3,g4.mono hI (fun _ _=>rfl)⟩⟩
      | iter m n sn =>
       have hit:convO inv views e0 y (.iter m n sn) = .iter (m.bind (look inv)) n sn:=by cases y<;>rfl
       rw[hit];obtain⟨bm,h1,h2⟩:=this;refine⟨bm,h1,fun m' e => ?_⟩;cases m with
       | none=>simp at e
       | some m0 =>
        obtain⟨km,g1,g2⟩:=h2 m0 rfl;exact⟨km,(hinv m0 m' e).trans g1,g2⟩
      | arow sz el es fs =>
       have har:convO inv views e0 y (.arow sz el es fs)=convA sz el es (Z69 inv views e0 (tailOf y) fs) (keepOf y) (rowOf y):=by cases y<;>rfl
       rw[har];refine convA_ok ?_;obtain⟨c1,c2⟩:=convTLL_get (inv:=inv) (views:=views) (e0:=e0) fs (tailOf y);refine ARow.tail this hI (fun _ _=>rfl) c1 (fun i hi hi' => ?_) rfl;obtain⟨ys,e⟩:=c2 i hi hi';obtain⟨g1,g2⟩:=Zcq (inv:=inv) (views:=views) (e0:=e0) (fs[i]) ys;refine⟨by rw[e,g1],fun j g g' v r => ?_⟩;obtain⟨y',e'⟩:=g2 j g (by rw[g1];exact g);simp only[e,e'];exact Zen hI hinv hv he0 r y'
   ·intro q1 q2 o1 o2 ki1 ki2 h1 h2 f1 f2 hbb
    rcases hobj' q1 o1 h1 with ⟨g1,_⟩ | ⟨k,o,y,hm,ho,rfl⟩
    ·rw[he0 q1 g1] at f1;simp at f1
    ·rcases hobj' q2 o2 h2 with ⟨g1,_⟩ | ⟨k',o',y',hm',ho',rfl⟩
     ·rw[he0 q2 g1] at f2;simp at f2
     ·rw[hinvm k q1 hm] at f1;rw[hinvm k' q2 hm'] at f2
      have:=hr.inv.inj k k' o o' ki1 ki2 ho ho' f1 f2 hbb;subst this;have a1:=Z57 k1 hm;have a2:=Z57 k1 hm';rw[a1] at a2;exact Option.some.inj a2
   ·intro q o' ki h f hIb
    rcases hobj' q o' h with ⟨g1,_⟩ | ⟨k,o,y,hm,ho,rfl⟩
    ·rw[he0 q g1] at f;simp at f
    ·rw[hinvm k q hm] at f
     rcases hIb with hIb | ⟨k',es,ki',h1,h2,h3⟩
     ·exact hr.inv.disj k o ki ho f hIb
     ·obtain⟨sz,el,e4⟩:=hview k' es h1
      have:=hr.inv.inj k k' o _ ki ki' ho e4 f h2 h3.symm;subst this;rw[hnv k q hm] at h1;simp at h1
   ·intro b hb
    rcases hb with hb | ⟨k,es,ki,h1,h2,rfl⟩
    ·exact hr.inv.bound b hb
    ·obtain⟨sz,el,e4⟩:=hview k es h1
     have:=hr.inv.objs k _ e4;simp only[OAt,h2,ORep] at this;obtain⟨_,_,_,arr,h3,_⟩:=this;exact(Array.getElem?_eq_some_iff.1 h3).1
   ·intro b hb
    rcases hb with hb | ⟨k,es,ki,h1,h2,rfl⟩
    ·exact hr.inv.fromI b hb
    ·obtain⟨sz,el,e4⟩:=hview k es h1
     exact .inr (hr.inv.fromO k _ ki e4 h2)
   ·intro q o' ki h f
    rcases hobj' q o' h with ⟨g1,_⟩ | ⟨k,o,y,hm,ho,rfl⟩
    ·rw[he0 q g1] at f;simp at f
    ·rw[hinvm k q hm] at f
     exact hr.inv.fromO k o ki ho f
   ·intro k hk
    have hk':k<s.floor:=hk;have hne0:isIn k e0=false:=by
     cases e:isIn k e0 with
     | false=>rfl
     | true=>have:=List.all_eq_true.1 k5 k (Zae.1 e);have:=Nat.le_of_ble_eq_true this;omega
    rw[← hr.inv.fix k hk'];simp only[κ',hne0];cases e:look (Zaw inv) k with
    | none=>rfl
    | some k0 =>
     obtain⟨p,hp,hpe⟩:=List.mem_map.1 (Z4e e);simp at hpe;obtain⟨h1,h2⟩:=hpe;have:=List.all_eq_true.1 k6 p hp;simp only[Bool.or_eq_true] at this;rcases this with h3 | h3
     ·have h3:=Nat.eq_of_beq_eq_true h3
      simp only;rw[← h2,h3,h1]
     ·have:=Nat.le_of_ble_eq_true h3;omega
  ·simp at h
 ·simp at h
theorem AWp.conv {Γ:Ctx} {c:Code} {Q:Exit→Z5→Prop} {s t:Z5} (inv:List (Nat×Nat)) (vk e0:List Nat) (h:Zeo s inv vk e0 t=some t) (k:AWp Γ c Q t):AWp Γ c Q s :=
 k.weaken fun _ _ hs=>hs.conv inv vk e0 h
end Go.Pv
