import Derived.ChangeArms
import Derived.Test.YtpoihfcehejgfaaGreatPxBlockMakes19
set_option linter.unusedVariables false
set_option linter.unusedSimpArgs false
namespace Go.Pv
open Go.WideShapes Go.ChangeShapes Go.RowKit
structure BK {H:Type} (bk:DataW H→Nat):Prop where
 str:∀ l:List UInt8,l.length≤bk (.lit (.string l))
 len:∀ (a b:List (DataW H)),a.length≤bk (.slice a b)
 elem:∀ (a b:List (DataW H)) (d:DataW H),d∈a→bk d≤bk (.slice a b)
 part:∀ (a:List (DataW H)) (d:DataW H),d∈a→bk d≤bk (.agg a)
def upN:Nat:=1048576
def Z2n (P:Program):Nat→TypeId→List Im→Prop
 | 0,_,_=>False
 | n+1,t,ims=>match P.underlying t with
  | some .bool=>∃ b,ims=[.sc (.bool b)]
  | some (.int k)=>∃ m,ims=[.sc (.int k m)]∧(Lit.int k m).wf=true
  | some .string=>∃ s,ims=[.sc (.string s)]∧s.size≤upN
  | some (.slice e)=>∃ es,ims=[.row es]∧es.length≤upN∧∀ c∈es,Z2n P n e c
  | some (.struct fs)=>shFs (Z2n P n) fs.toList ims
  | _=>False
def RdU (P:Program) (w:World) (n:Nat) (t:TypeId) (cs:List Value):Prop :=
 ∃ ims:List Im,ims.length=cs.length∧(∀ j (h:j<ims.length) (h':j<cs.length),IRep w (IH w) (ims[j]) (cs[j]))∧Z2n P n t ims
theorem Z8p {P:Program} {w:World} {n:Nat} {t:TypeId} {v:Value} {x:Im} (h:IRep w (IH w) x v) (hs:Z2n P n t [x]):RdU P w n t [v] :=
 ⟨[x],rfl,fun j h1 h2=>by simp at h1;subst h1;simpa using h,hs⟩
theorem rdU_fs {P:Program} {w:World} {n:Nat} {cs:List Value}:∀ (fs:List Field) (o m:Nat),tiles P o fs=some m→m≤cs.length→(∀ f∈fs,(f.offset+P.cellsOf f.type≤cs.length→RdU P w n f.type ((cs.drop f.offset).take (P.cellsOf f.type)))) →
  ∃ ims:List Im,o+ims.length=m∧(∀ j (h:j<ims.length) (h':o+j<cs.length),IRep w (IH w) (ims[j]) (cs[o+j]))∧shFs (Z2n P n) fs ims:=by
 intro fs
 induction fs with
 | nil=>intro o m h hm _;simp[tiles] at h;subst h;exact⟨[],by simp,fun j h=>by simp at h,rfl⟩
 | cons f fs ih =>
  intro o m h hm hf;unfold tiles at h;split at h
  ·rename_i hb
   have ho:=Nat.eq_of_beq_eq_true hb;obtain⟨ims,h1,h2,h3⟩:=ih _ m h hm (fun g hg=>hf g (List.mem_cons_of_mem _ hg));obtain⟨a,a1,a2,a3⟩:=hf f List.mem_cons_self (by rw[ho];omega);have hal:a.length=P.cellsOf f.type:=by rw[a1,List.length_take,List.length_drop,ho];omega
   refine⟨a++ims,by rw[List.length_append];omega,fun j hj hj' => ?_,a,ims,rfl,a3,h3⟩;by_cases hlt:j<a.length
   ·rw[List.getElem_append_left hlt]
    have:=a2 j hlt (by rw[← a1];exact hlt);rw[List.getElem_take,List.getElem_drop] at this;simpa[ho] using this
   ·rw[List.getElem_append_right (by omega)]
    rw[List.length_append] at hj;have:=h2 (j-a.length) (by omega) (by omega);have e:o+P.cellsOf f.type+(j-a.length)=o+j:=by omega
    simpa[e] using this
  ·simp at h
theorem readU {H:Type} {enc:TypeId×Value→H} {P:Program} {w:World} {sp:Nat→Bool} {bk:DataW H→Nat} (hB:BK bk):∀ (n:Nat) (t:TypeId),goodT P n t=true→∀ (fuel:Nat) (cs:List Value) (x:DataW H×List MemPlace),DataW.trod enc P w 0 sp true fuel t cs=some x→bk x.1≤upN→RdU P w n t cs:=by
 intro n
 induction n with
 | zero=>intro t h;simp[goodT] at h
 | succ n ih =>
  intro t hg fuel cs x h hW;cases fuel with
  | zero=>simp[DataW.trod] at h
  | succ fuel =>
   have h0':=h;unfold goodT at hg;unfold DataW.trod at h;split at hg
   ·rename_i hu
    rw[hu] at h;split at h<;>simp_all;exact Z8p (.sc _) (by simp[Z2n,hu])
   ·rename_i k hu
    rw[hu] at h;split at h<;>simp_all;obtain⟨⟨rfl,hwf⟩,_⟩:=h;exact Z8p (.sc _) (by simp[Z2n,hu,hwf])
   ·rename_i hu
    rw[hu] at h;split at h<;>simp_all;obtain⟨_,h2⟩:=h;rw[← h2] at hW;refine Z8p (.sc _) ?_;simp only[Z2n,hu];refine⟨_,rfl,Nat.le_trans ?_ hW⟩;exact Nat.le_trans (Nat.le_of_eq (by rw[Array.length_toList];rfl)) (hB.str _)
   ·rename_i e hu
    rw[hu] at h;simp only[Bool.and_eq_true,Nat.blt_eq] at hg;obtain⟨hsz,hge⟩:=hg;rcases cs with _ | ⟨v,_ | ⟨v2,cs⟩⟩
    ·simp at h
    ·cases v with
     | slice base len cap =>
      cases base with
      | none =>
       cases len with
       | zero=>exact Z8p (.row0 none cap) (by simp[Z2n,hu])
       | succ len=>simp at h
      | some a =>
       simp only at h;split at h
       ·rename_i hc
        obtain⟨_,hlc,hcm⟩:=hc;generalize hel:(List.range len).mapM (fun i=>(w.cells? 0 (a.add (i*P.cellsOf e)) (P.cellsOf e)).bind (DataW.trod enc P w 0 sp true fuel e))=els at h;cases els with
        | none=>simp at h
        | some els =>
         clear h;have hlen:=mapM_len hel;obtain⟨elems,spare,hel',hx',hget⟩:∃ (elems spare:List (DataW H×List MemPlace)),elems.length=len∧x.1 = .slice (elems.map (·.1)) (spare.map (·.1))∧∀ i,i<len→(w.cells? 0 (a.add (i*P.cellsOf e)) (P.cellsOf e)).bind (DataW.trod enc P w 0 sp true fuel e)=elems[i]? := by
          rcases DataW.trod_slice hu h0' with ⟨q,_⟩ | ⟨a',len',cap',elems,rest,n',hn',hc',hx,_,_,_,hel',hget,_⟩
          ·simp at q
          ·simp only[List.cons.injEq,Value.slice.injEq,Option.some.injEq,and_true] at hc'
           obtain⟨rfl,rfl,rfl⟩:=hc';obtain rfl:fuel=n':=by omega
           exact⟨elems,rest,hel',by rw[hx],hget⟩
         have hbound:len≤upN:=by
          have:=hB.len (elems.map (·.1)) (spare.map (·.1));rw[List.length_map] at this;rw[hx'] at hW;omega
         have hat:∀ i,i<len→∃ ci,w.cells? 0 (a.add (i*P.cellsOf e)) (P.cellsOf e)=some ci∧RdU P w n e ci:=by
          intro i hi;obtain⟨y,hy⟩:=mapM_mem hel i (List.mem_range.2 hi);cases hci:w.cells? 0 (a.add (i*P.cellsOf e)) (P.cellsOf e) with
          | none=>rw[hci] at hy;simp at hy
          | some ci =>
           have hy2:=hget i hi;rw[hy] at hy2;rw[hci] at hy;refine⟨ci,rfl,ih e hge fuel ci y hy (Nat.le_trans ?_ hW)⟩;rw[hx'];exact hB.elem _ _ y.1 (List.mem_map.2 ⟨y,List.mem_of_getElem? hy2.symm,rfl⟩)
         have hex:∀ i:Nat,∃ ims:List Im,i<len→ims.length=P.cellsOf e∧(∀ j (h:j<ims.length),∃ u,w.cell? ((a.add (i*P.cellsOf e)).add j)=some u∧IRep w (IH w) (ims[j]) u)∧Z2n P n e ims:=by
          intro i;by_cases hi:i<len
          ·obtain⟨ci,h1,ims,h2,h3,h4⟩:=hat i hi
           unfold World.cells? at h1;rw[if_pos (Nat.zero_le _)] at h1;have hcl:=mapM_len h1;rw[List.length_range] at hcl;refine⟨ims,fun _=>⟨h2.trans hcl,fun j hj => ?_,h4⟩⟩;have hj':j<ci.length:=by omega
           have:=mapM_get h1 j (by rw[List.length_range];omega) hj';rw[List.getElem_range] at this;exact⟨_,this,h3 j hj hj'⟩
          ·exact⟨[],fun h=>absurd h hi⟩
         obtain⟨f,hf⟩:=Classical.axiomOfChoice hex;have hes:((List.range len).map f).length=len:=by simp
         by_cases h0:len=0
         ·subst h0
          exact Z8p (.row0 (some a) cap) (by simp[Z2n,hu])
         ·obtain⟨q1,q2,_⟩:=hf 0 (by omega)
          obtain⟨u0,hu0,_⟩:=q2 0 (by omega);have ha0:(a.add (0*P.cellsOf e)).add 0=a:=by simp[Addr.add]
          rw[ha0] at hu0;obtain⟨hb,hsp⟩:=cell_lt hu0;obtain⟨b,off,spot⟩:=a;simp only at hsp hb;subst hsp;have hadd:∀ i j,((⟨b,off,none⟩:Addr).add (i*P.cellsOf e)).add j=⟨b,off+(i*P.cellsOf e+j),none⟩:=by
           intro i j;rw[Z4q,Z4q,Nat.add_assoc]
          have hwidth:∀ i (h:i<((List.range len).map f).length),(((List.range len).map f)[i]).length=P.cellsOf e:=by
           intro i hi;rw[List.getElem_map,List.getElem_range];exact(hf i (by omega)).1
          refine Z8p (x:=.row ((List.range len).map f)) (.row (sz:=P.cellsOf e) (fun i j=>(w.cell? ⟨b,off+(i*P.cellsOf e+j),none⟩).getD undef) hes.symm hb hlc hwidth ?_ ?_) ?_
          ·intro i j hi hj
           obtain⟨r1,r2,_⟩:=hf i (by omega);obtain⟨u,hu',_⟩:=r2 j (by omega);rw[hadd] at hu';rw[hu'];rfl
          ·intro i hi j hj
           obtain⟨r1,r2,_⟩:=hf i (by omega);rw[hwidth i hi] at hj;obtain⟨u,hu',hr⟩:=r2 j (by omega);rw[hadd] at hu';rw[hu'];simpa using hr
          ·unfold Z2n
           rw[hu];refine⟨_,rfl,by rw[hes];exact hbound,fun c hc => ?_⟩;obtain⟨i,hi,rfl⟩:=List.mem_map.1 hc;exact(hf i (List.mem_range.1 hi)).2.2
       ·simp at h
     | _=>simp at h
    ·simp at h
   ·rename_i fs hu
    rw[hu] at h;simp only[Bool.and_eq_true] at hg;obtain⟨ht,hall⟩:=hg;split at ht
    ·rename_i m hm
     obtain rfl:=Nat.eq_of_beq_eq_true ht;simp only at h;split at h
     ·rename_i hlen
      generalize hxs:(fs.toList.mapM fun f=>DataW.trod enc P w 0 sp true fuel f.type ((cs.drop f.offset).take (P.cellsOf f.type)))=xs at h;cases xs with
      | none=>simp at h
      | some xs =>
       obtain⟨ims,h1,h2,h3⟩:=rdU_fs (P:=P) (w:=w) (n:=n) (cs:=cs) fs.toList 0 _ hm (by omega) (fun f hf _=>by
        obtain⟨y,hy⟩:=mapM_mem hxs f hf;refine ih f.type (List.all_eq_true.1 hall f hf) fuel _ y hy (Nat.le_trans ?_ hW);obtain⟨xs',n',hn',hx',_,_,hget⟩:=DataW.trod_struct hu h0';obtain rfl:fuel=n':=by omega
        obtain⟨i,hi⟩:=List.getElem?_of_mem hf;have hy2:=hget i f (by simpa using hi);rw[hy] at hy2;rw[hx'];exact hB.part _ y.1 (List.mem_map.2 ⟨y,List.mem_of_getElem? hy2.symm,rfl⟩))
       refine⟨ims,by omega,fun j hj hj'=>by have:=h2 j hj (by omega);simpa using this,?_⟩;unfold Z2n;rw[hu];exact h3
     ·simp at h
    ·simp at ht
   ·simp at hg
theorem Zaz {H:Type} {enc:TypeId×Value→H} {P:Program} {W:World} {sp:Nat→Bool} {bk:DataW H→Nat} (hB:BK bk) {r:Reach} {base:Nat} {t:TypeId} {v:Value} {d:DataW H} {ps:List MemPlace} {b:Bool} (n:Nat) (hv:Value.okWide P W r base t v) (hg:goodT P n t=true) (hb:aggT P t=b) (hd:DataW.Trod enc P W 0 sp true t v d ps) (hw:bk d≤upN) (κ:Nat→Option KI) :
  ∃ ims,Rep W (IH W) κ (argA b ims) v∧Z2n P n t ims:=by
 obtain⟨fuel,hf⟩:=hd;obtain⟨ims,h1,h2,h3⟩:=readU hB n t hg fuel _ _ hf hw;refine⟨ims,?_,h3⟩;cases n with
 | zero=>simp[goodT] at hg
 | succ n =>
  unfold goodT at hg;unfold aggT at hb;split at hg
  ·rename_i hu
   rw[hu] at hb;subst hb;obtain⟨x,rfl⟩:=okWide_bool hu hv;exact arg_one rfl h1 h2
  ·rename_i k hu
   rw[hu] at hb;subst hb;obtain⟨x,rfl⟩:=okWide_int hu hv;exact arg_one rfl h1 h2
  ·rename_i hu
   rw[hu] at hb;subst hb;obtain⟨x,rfl⟩:∃ x,v = .string x:=by
    simp only[Value.okWide,hu,Cell.okWide] at hv;cases v<;>simp_all [Cell.ok]
   exact arg_one rfl h1 h2
  ·rename_i e hu
   rw[hu] at hb;subst hb;obtain⟨a,len,cap,rfl⟩:=okWide_slice hu hv;exact arg_one rfl h1 h2
  ·rename_i fs hu
   rw[hu] at hb;subst hb;obtain⟨cs,rfl,_⟩:=okWide_struct hu hv;show Rep W (IH W) κ (.agg (ims.map .im)) _;have:=Rep.agg (w:=W) (I:=IH W) (κ:=κ) (cells:=ims.map .im) (vs:=cs.toList) (by simpa[Value.cells] using h1.symm) (fun j h h'=>by
    rw[List.getElem_map];exact .im (h2 j (by simpa using h) (by simpa[Value.cells] using h')))
   simpa using this
  ·simp at hg
def OpnU (P:Program) (t:TypeId) {α:Type} (enc:α→List Im) (R:α→Prop):Prop:=∀ n ims,Z2n P n t ims→∃ x,ims=enc x∧R x
section
variable {P:Program} {t:TypeId}
theorem Z9p {k:IntKind} (R:Int→Prop) (hR:∀ m,(Lit.int k m).wf=true→R m) (h:P.underlying t=some (.int k)):OpnU P t (Z41 k) R:=by
 intro n ims hs;cases n with
 | zero=>exact absurd hs (by simp[Z2n])
 | succ n=>unfold Z2n at hs;rw[h] at hs;obtain⟨b,rfl,hw⟩:=hs;exact⟨b,rfl,hR b hw⟩
theorem opnU_str (h:P.underlying t=some .string):OpnU P t encStr (fun s=>s.size≤1048576):=by
 intro n ims hs;cases n with
 | zero=>exact absurd hs (by simp[Z2n])
 | succ n=>unfold Z2n at hs;rw[h] at hs;obtain⟨b,rfl,hw⟩:=hs;exact⟨b,rfl,hw⟩
theorem opnU_list {α:Type} {S:List Im→Prop} {enc:α→List Im} {R:α→Prop} (h:∀ c,S c→∃ x,c=enc x∧R x):∀ es:List (List Im),(∀ c∈es,S c)→∃ xs:List α,es=xs.map enc∧∀ x∈xs,R x
 | [],_=>⟨[],rfl,by simp⟩
 | c::es,hs=>by
  obtain⟨x,rfl,hx⟩:=h c (hs c (by simp));obtain⟨xs,rfl,hxs⟩:=opnU_list h es (fun c hc=>hs c (by simp[hc]));exact⟨x::xs,rfl,by simpa using ⟨hx,hxs⟩⟩
theorem Z6u {e:TypeId} {α:Type} {enc:α→List Im} {R:α→Prop} (he:OpnU P e enc R) (h:P.underlying t=some (.slice e)):OpnU P t (Z6b enc) (fun xs=>xs.length≤1048576∧∀ x∈xs,R x):=by
 intro n ims hs;cases n with
 | zero=>exact absurd hs (by simp[Z2n])
 | succ n =>
  unfold Z2n at hs;rw[h] at hs;obtain⟨es,rfl,hl,hes⟩:=hs;obtain⟨xs,rfl,hxs⟩:=opnU_list (he n) es hes;rw[List.length_map] at hl;exact⟨xs,rfl,hl,hxs⟩
theorem Z56 {n:Nat} {ims:List Im} {fs:Array Field} (hs:Z2n P n t ims) (h:P.underlying t=some (.struct fs)):∃ m,shFs (Z2n P m) fs.toList ims:=by
 cases n with
 | zero=>exact absurd hs (by simp[Z2n])
 | succ n=>unfold Z2n at hs;rw[h] at hs;exact⟨n,hs⟩
end
end Go.Pv
