import Derived.Laws.IdiomCopy
import Derived.Test.YtpoihfcehejgfaaGreatPxBlockMakes04
set_option linter.unusedVariables false
set_option linter.unusedSimpArgs false
namespace Go.Pv
structure Z76 (w:World) (I:Nat→Prop) (κ:Nat→Option KI) (sz:Nat) (gs:List (List AVal)) (vs:List Value):Prop where
 len:vs.length=gs.length*sz
 el:∀ i (h:i<gs.length),(gs[i]).length=sz
 at_:∀ i (h:i<gs.length) j (h':j<(gs[i]).length),∃ v,vs[i*sz+j]? = some v∧Rep w I κ ((gs[i])[j]) v
theorem Z76.nil (w:World) (I:Nat→Prop) (κ:Nat→Option KI) (sz:Nat):Z76 w I κ sz [] []:=⟨by simp,fun i h=>absurd h (Nat.not_lt_zero _),fun i h=>absurd h (Nat.not_lt_zero _)⟩
theorem Z76.append {w:World} {I:Nat→Prop} {κ:Nat→Option KI} {sz:Nat} {es fs:List (List AVal)} {us vs:List Value} (h:Z76 w I κ sz es us) (h':Z76 w I κ sz fs vs):Z76 w I κ sz (es++fs) (us++vs):=by
 refine⟨by simp[h.len,h'.len,Nat.add_mul],fun i hi => ?_,fun i hi j hj => ?_⟩
 ·by_cases hlt:i<es.length
  ·rw[List.getElem_append_left hlt];exact h.el i hlt
  ·rw[List.getElem_append_right (by omega)];exact h'.el _ _
 ·by_cases hlt:i<es.length
  ·simp only[List.getElem_append_left hlt] at hj ⊢
   obtain⟨v,e,r⟩:=h.at_ i hlt j hj;have hjs:j<sz:=by rw[← h.el i hlt];exact hj
   exact⟨v,by rw[List.getElem?_append_left (by rw[h.len];exact Z6a hlt hjs)];exact e,r⟩
  ·simp only[List.getElem_append_right (Nat.le_of_not_lt hlt)] at hj ⊢
   simp only[List.length_append] at hi;obtain⟨v,e,r⟩:=h'.at_ (i-es.length) (by omega) j hj;refine⟨v,?_,r⟩;rw[List.getElem?_append_right (by rw[h.len];have:=Nat.mul_le_mul_right sz (Nat.le_of_not_lt hlt);omega),h.len];rw[show i*sz+j-es.length*sz=(i-es.length)*sz+j from by rw[Nat.sub_mul];have:=Nat.mul_le_mul_right sz (Nat.le_of_not_lt hlt);omega];exact e
theorem Z76.mono {w w':World} {I I':Nat→Prop} {κ κ':Nat→Option KI} {sz:Nat} {gs:List (List AVal)} {vs:List Value} (h:Z76 w I κ sz gs vs) (hI:∀ b,I b→I' b) (hw:∀ b,I b→w'.heap[b]? = w.heap[b]?) (hk:∀ k,Z5e k gs=true→κ' k=κ k):Z76 w' I' κ' sz gs vs :=
 ⟨h.len,h.el,fun i hi j hj=>let ⟨v,e,r⟩:=h.at_ i hi j hj;⟨v,e,r.mono hI hw (fun k hkk=>hk k (by
  cases e:Z5e k gs with
  | true=>rfl
  | false=>rw[Z49 (Zao e i hi) j hj] at hkk;cases hkk))⟩⟩
theorem arow_flat {w:World} {I:Nat→Prop} {κ:Nat→Option KI} {ki:KI} {sz el:Nat} {gs:List (List AVal)} (h:ARow w I κ ki sz el gs) :
  ∃ arr:Array Value,w.heap[ki.b]? = some (.cells arr el (0,0))∧arr.size=ki.cap*sz∧ki.len=gs.length∧ki.sz=sz∧gs.length≤ki.cap∧Z76 w I κ sz gs (arr.toList.take (gs.length*sz)):=by
 obtain⟨h1,h2,h3,arr,h4,h5,h6⟩:=h;have hle:gs.length*sz≤arr.size:=by rw[h5];exact Nat.mul_le_mul_right _ h3
 refine⟨arr,h4,h5,h2,h1,h3,by simp;omega,fun i hi=>(h6 i hi).1,fun i hi j hj => ?_⟩;obtain⟨v,e,r⟩:=(h6 i hi).2 j hj;have hjs:j<sz:=by rw[← (h6 i hi).1];exact hj
 refine⟨v,?_,r⟩;rw[List.getElem?_take,if_pos (Z6a hi hjs)];simpa using e
theorem arow_of {w:World} {I:Nat→Prop} {κ:Nat→Option KI} {ki:KI} {sz el:Nat} {gs:List (List AVal)} {vs rest:List Value} (hb:w.heap[ki.b]? = some (.cells (vs++rest).toArray el (0,0))) (h:Z76 w I κ sz gs vs) (hsz:ki.sz=sz) (hlen:ki.len=gs.length) (hcap:gs.length≤ki.cap) (hall:(vs++rest).length=ki.cap*sz):ARow w I κ ki sz el gs:=by
 refine⟨hsz,hlen,hcap,(vs++rest).toArray,hb,by simpa using hall,fun i hi=>⟨h.el i hi,fun j hj => ?_⟩⟩;obtain⟨v,e,r⟩:=h.at_ i hi j hj;have hjs:j<sz:=by rw[← h.el i hi];exact hj
 refine⟨v,?_,r⟩;simp only[List.getElem?_toArray];rw[List.getElem?_append_left (by rw[h.len];exact Z6a hi hjs)];exact e
theorem arow_row {w:World} {I:Nat→Prop} {κ:Nat→Option KI} {ki:KI} {sz el:Nat} {es:List (List Im)} (h:ORep w I κ ki (.row sz el es)):ARow w I κ ki sz el (imL es):=by
 obtain⟨h1,h2,h3,arr,h4,h5,h6⟩:=h;refine⟨h1,by rw[Z23];exact h2,by rw[Z23];exact h3,arr,h4,h5,fun i hi => ?_⟩;rw[Z23] at hi;obtain⟨g1,g2⟩:=h6 i hi;simp only[imL_get,List.length_map];refine⟨g1,fun j hj => ?_⟩;obtain⟨v,e,r⟩:=g2 j hj;simp only[List.getElem_map];exact⟨v,e,.im r⟩
def Z80:List (List AVal)→Bool
 | []=>true
 | g::r=>Z2c g&&Z80 r
theorem Z99:∀ {l:List (List AVal)},Z80 l=true→∀ j (h:j<l.length),Z2c (l[j])=true
 | [],_,j,h=>by simp at h
 | x::r,he,j,h=>by
  simp only[Z80,Bool.and_eq_true] at he;cases j with
  | zero=>exact he.1
  | succ j=>exact Z99 he.2 j (by simpa using h)
theorem flatA_leaf {w:World} {I:Nat→Prop} {κ:Nat→Option KI} {sz:Nat} {gs:List (List AVal)} {vs:List Value} (h:Z76 w I κ sz gs vs) (hl:Z80 gs=true):∀ v∈vs,Z8v v=true:=by
 intro v hv;obtain⟨m,hm,rfl⟩:=List.mem_iff_getElem.1 hv;have hlen:=h.len;have hsz0:0<sz:=by
  rcases Nat.eq_zero_or_pos sz with h0 | h0
  ·rw[h0,Nat.mul_zero] at hlen;omega
  ·exact h0
 have hi:m / sz<gs.length:=by rw[Nat.div_lt_iff_lt_mul hsz0];omega
 have hj:m % sz<(gs[m / sz]).length:=by rw[h.el];exact Nat.mod_lt _ hsz0
 obtain⟨v,e,r⟩:=h.at_ _ hi _ hj;rw[show m / sz*sz+m % sz=m from by rw[Nat.mul_comm];exact Nat.div_add_mod m sz,List.getElem?_eq_getElem hm] at e;rw[Option.some.inj e];exact Z9t r (Z6w (Z99 hl _ hi) _ hj)
theorem Inv.drew {Γ:Ctx} {κ:Nat→Option KI} {I:Nat→Prop} {s:Z6} {w:World} (h:Inv Γ κ I s w):Inv Γ κ I s w.drew:=by
 refine⟨fun k o hk => ?_,h.inj,h.disj,h.bound,⟨h.keep.os,h.keep.tape,h.keep.output,h.keep.size,h.keep.block⟩,h.ikeep,h.fromI,h.fromO,h.fix⟩;have:=h.objs k o hk;unfold OAt at this ⊢;split
 ·rename_i e';rw[e'] at this;exact this
 ·rename_i ki' e';rw[e'] at this;exact this.mono (fun _ h=>h) (fun _ _=>rfl) rfl (fun _ _=>rfl)
theorem appendA_core {P:Program} {Γ:Ctx} {κ:Nat→Option KI} {I:Nat→Prop} {s:Z6} {w:World} {st e:TypeId} {ts:Array TypeId} {sz by_:Nat} {old new:List (List AVal)} {sv xv:Value} {news:List Value} {k2:Nat} {kold:List Nat} {ty:TypeId} {o':MObj} (hinv:Inv Γ κ I s w) (hf:s.fresh k2) (hts:ts[0]? = some st) (hts2:Z7b P ts=true) (hel:P.underlying st=some (.slice e)) (hby:Z5k P e=some (by_,sz)) (hb0:0<by_) (hold:(∃ base,sv = .slice base 0 0∧old=[])∨∃ k o ki,kold=[k]∧s.obj k=some o∧κ k=some ki∧ARow w I κ ki sz e old∧sv = .slice (some ⟨ki.b,0,none⟩) ki.len ki.cap) (hk1:Z5e k2 old=false) (hk3:Z5e k2 new=false) (hne:new≠[]) (hxlen:∀ w2:World,w2.heap=w.heap→(Builtin.lenOf xv).run P w2 = .ok new.length w2) (hxcells:∀ w2:World,w2.heap=w.heap→(Builtin.firstCells sz new.length xv).run P w2 = .ok news.toArray w2) (hfl:Z76 w I κ sz new news) (hleaf:∀ v∈news,Z8v v=true) (hroom:(old.length+new.length)*by_≤140737488355328) (ho':∀ w κ ki,ARow w I κ ki sz e (old++new)→ORep w I κ ki o') :
  ∃ v w' κ',(Builtin.append_ ts ty #[sv,xv]).run P w = .ok v w'∧Inv Γ κ' I (s.objput ((k2,some o')::kold.map (·,none))) w'∧(∀ b,I b→w'.heap[b]? = w.heap[b]?) ∧
   (∀ x k,(s.get x).has k=true→κ' k=κ k)∧Rep w' I κ' (.own k2) v:=by
 have hk0:∀ p∈kold.map (fun k=>(k,(none:Option MObj))),p.2=none:=by
  intro p hp;obtain⟨k,_,rfl⟩:=List.mem_map.1 hp;rfl
 have hinvk:=hinv.kill _ hk0;have hfk:=Z8w hf hk0;have hpos:0<new.length:=List.length_pos_iff.2 hne;have hset:∀ (gs:List (List AVal)) (x:Option KI),Z5e k2 gs=false→∀ k,Z5e k gs=true→setK κ k2 x k=κ k:=fun gs x h k hk=>Z6d _ _ _ (by rintro rfl;rw[h] at hk;cases hk)
 have grown:∀ (base:Option Addr) (n c:Nat) (olds:List Value),sv = .slice base n c→n=old.length→c<n+new.length→(∀ w2:World,w2.heap=w.heap→(Builtin.firstCells sz n (.slice base n c)).run P w2 = .ok olds.toArray w2) →
   Z76 w I κ sz old olds→∃ v w' κ',(Builtin.append_ ts ty #[sv,xv]).run P w = .ok v w'∧Inv Γ κ' I (s.objput ((k2,some o')::kold.map (·,none))) w'∧(∀ b,I b→w'.heap[b]? = w.heap[b]?) ∧
   (∀ x k,(s.get x).has k=true→κ' k=κ k)∧Rep w' I κ' (.own k2) v:=by
  intro base n c olds hsv hn hgrow ho hfo;subst hn;obtain⟨cap,rest,hcap,hrest,hrun⟩:=Z69 (ty:=ty) hts hts2 hel hby hb0 (hxlen w rfl) (hxcells w.drew rfl) (ho w.drew rfl) hgrow hroom
  let ki:KI:=⟨w.heap.size,cap,sz,old.length+new.length⟩
  have hdrew:=hinvk.drew;have hfl2:Z76 (World.alloc' w.drew (.cells (olds++news++rest).toArray e)) I (setK κ k2 (some ki)) sz (old++new) (olds++news) :=
   (hfo.append hfl).mono (fun _ h=>h) (fun b hb=>Z4c _ _ _ (hdrew.bound b hb)) (hset _ _ (by rw[Z5i,hk1,hk3];rfl))
  have hO:ORep (World.alloc' w.drew (.cells (olds++news++rest).toArray e)) I (setK κ k2 (some ki)) ki o' :=
   ho' _ _ _ (arow_of (Z4b w.drew _) hfl2 rfl (by simp[ki]) (by simpa[ki] using hcap) (by
    rw[List.length_append,hfl2.len,hrest,← Nat.add_mul];simp only[ki,List.length_append];congr 1;omega))
  obtain⟨g1,g2,g3⟩:=hdrew.alloc hfk (ki:=ki) rfl hO;refine⟨_,_,setK κ k2 (some ki),by rw[hsv];exact hrun,g1,g2,fun x k hx=>g3 x k hx,?_⟩;exact Rep.own (k:=k2) (ki:=ki) (Z1n ..)
 rcases hold with ⟨base,rfl,rfl⟩ | ⟨k,o,ki,rfl,hobj,eκ,hrow,rfl⟩
 ·exact grown base 0 0 [] rfl rfl (by omega) (fun w2 _=>by cases base<;>simp[Builtin.firstCells,loadCells,loadCellsFrom]) (.nil ..)
 ·obtain⟨arr,h1,h2,h3,h4,h5,hfo⟩:=arow_flat hrow
  have hle:old.length*sz≤arr.size:=by rw[h2];exact Nat.mul_le_mul_right _ h5
  by_cases hfit:old.length+new.length≤ki.cap
  ·let ki':KI:=⟨ki.b,ki.cap,sz,old.length+new.length⟩
   have hsz2:old.length*sz+news.length≤arr.size:=by rw[h2,hfl.len,← Nat.add_mul];exact Nat.mul_le_mul_right _ hfit
   have hst:=Z55 (P:=P) news w arr (old.length*sz) h1 hsz2 hleaf;have hbl:ki.b<w.heap.size:=(Array.getElem?_eq_some_iff.1 h1).1;have hneb:∀ b,I b→(World.setBlock w ki.b (.cells (Z21 arr (old.length*sz) news) e (0,0))).heap[b]? = w.heap[b]? := fun b hb'=>by
    rw[Z13 _ _ _ _ hbl,if_neg];rintro rfl;exact hinv.disj k _ ki hobj eκ hb'
   have hflall:=(hfo.append hfl).mono (I':=I) (κ':=setK κ k2 (some ki')) (fun _ h=>h) hneb (hset _ _ (by rw[Z5i,hk1,hk3];rfl));have hO':ORep (World.setBlock w ki.b (.cells (Z21 arr (old.length*sz) news) e (0,0))) I (setK κ k2 (some ki')) ki' o':=by
    refine ho' _ _ _ ⟨rfl,by simp[ki'],by simpa[ki'] using hfit,Z21 arr (old.length*sz) news,by rw[Z13 _ _ _ _ hbl,if_pos rfl],by rw[Z3c];exact h2,fun i hi=>⟨hflall.el i hi,fun j hj => ?_⟩⟩;obtain⟨v,e',r⟩:=hflall.at_ i hi j hj;have hjs:j<sz:=by rw[← hflall.el i hi];exact hj
    refine⟨v,?_,r⟩;rw[Z2u _ _ _ _ hsz2];have hlt:=Z6a hi hjs;rw[List.length_append,Nat.add_mul] at hlt;by_cases hin:old.length*sz≤i*sz+j
    ·rw[if_pos ⟨hin,by rw[hfl.len];exact hlt⟩]
     rw[List.getElem?_append_right (by simp;omega)] at e';rw[← e'];congr 1;simp;omega
    ·rw[if_neg (by omega)]
     rw[List.getElem?_append_left (by simp;omega),List.getElem?_take,if_pos (by omega)] at e';simpa using e'
   obtain⟨g1,g2,g3⟩:=hinv.move hobj eκ hf (ki':=ki') rfl hO';refine⟨.slice (some ⟨ki.b,0,none⟩) (ki.len+new.length) ki.cap,_,setK κ k2 (some ki'),?_,g1,g2,g3,?_⟩
   ·exact Z4n hts hts2 hel hby (hxlen w rfl) (hxcells w rfl) (by omega) (by simp only[Z7q,Z4q,Nat.zero_add,h3];exact hst)
   ·have:=Rep.own (w:=World.setBlock w ki.b (.cells (Z21     arr (old.length*sz) news) e (0,0))) (I:=I) (κ:=setK κ k2 (some ki')) (k:=k2) (ki:=ki') (Z1n       ..)
    rw[h3];exact this
  ·refine grown (some ⟨ki.b,0,none⟩) ki.len ki.cap (arr.toList.take (old.length*sz)) rfl h3 (by omega) (fun w2 hw2 => ?_) hfo
   simp only[Builtin.firstCells];rw[Z3u (u:=fun m=>arr[m]?.getD undef) (fun m hm=>by
    have hm2:m<arr.size:=by rw[h3] at hm;omega
    have:w2.cell? ⟨ki.b,0+m,none⟩=w.cell? ⟨ki.b,0+m,none⟩:=by unfold World.cell?;rw[hw2]
    rw[this,Z5n h1,Nat.zero_add];simp[hm2])]
   congr 2;apply List.ext_getElem?;intro m;rw[List.getElem?_map,List.getElem?_take,h3];by_cases hm:m<old.length*sz
   ·rw[List.getElem?_range hm,if_pos hm]
    have:m<arr.size:=by omega
    simp[this]
   ·rw[if_neg hm,List.getElem?_eq_none (by rw[List.length_range];omega)];rfl
def rowA:MObj→Option (Nat×Nat×List (List Im)×List (List AVal))
 | .row sz el es=>some (sz,el,es,[])
 | .arow sz el es fs=>some (sz,el,es,fs)
 | _=>none
theorem rowA_ok {w:World} {I:Nat→Prop} {κ:Nat→Option KI} {ki:KI} {o:MObj} {sz el:Nat} {es:List (List Im)} {fs:List (List AVal)} (h:rowA o=some (sz,el,es,fs)) (ho:ORep w I κ ki o):ARow w I κ ki sz el (imL es++fs):=by
 unfold rowA at h;split at h
 ·simp at h;obtain⟨rfl,rfl,rfl,rfl⟩:=h;rw[List.append_nil];exact arow_row ho
 ·simp at h;obtain⟨rfl,rfl,rfl,rfl⟩:=h;exact ho
 ·simp at h
theorem rowA_none {w:World} {I:Nat→Prop} {κ:Nat→Option KI} {k:Nat} {o:MObj} {sz el:Nat} {es:List (List Im)} {fs:List (List AVal)} (h:rowA o=some (sz,el,es,fs)) (ho:OAt w I κ k o) (e:κ k=none):es=[]∧fs=[]:=by
 simp only[OAt,e] at ho;obtain⟨_,_,rfl⟩:=ho;simp[rowA] at h;exact⟨h.2.2.1,h.2.2.2⟩
theorem rowA_has {k:Nat} {o:MObj} {sz el:Nat} {es:List (List Im)} {fs:List (List AVal)} (h:rowA o=some (sz,el,es,fs)) (ho:o.has k=false):Z5e k (imL es++fs)=false:=by
 rw[Z5i,imL_has];unfold rowA at h;split at h
 ·simp at h;obtain⟨rfl,rfl,rfl,rfl⟩:=h;rfl
 ·simp at h;obtain⟨rfl,rfl,rfl,rfl⟩:=h;exact ho
 ·simp at h
theorem rowA_at {w:World} {I:Nat→Prop} {κ:Nat→Option KI} {k:Nat} {o:MObj} {sz el:Nat} {es:List (List Im)} {fs:List (List AVal)} {v:Value} (h:rowA o=some (sz,el,es,fs)) (ho:OAt w I κ k o) (hv:Rep w I κ (.own k) v) :
  (∃ base,v = .slice base 0 0∧es=[]∧fs=[])∨∃ ki,κ k=some ki∧ARow w I κ ki sz el (imL es++fs)∧v = .slice (some ⟨ki.b,0,none⟩) ki.len ki.cap:=by
 cases hv with
 | own0 base e=>obtain⟨h1,h2⟩:=rowA_none h ho e;exact .inl ⟨base,rfl,h1,h2⟩
 | @own _ ki e=>simp only[OAt,e] at ho;exact .inr ⟨ki,e,rowA_ok h ho,rfl⟩
theorem arow_cells {P:Program} {w:World} {I:Nat→Prop} {κ:Nat→Option KI} {ki:KI} {sz el:Nat} {gs:List (List AVal)} (h:ARow w I κ ki sz el gs) :
  ∃ news,Z76 w I κ sz gs news∧ki.len=gs.length∧∀ w2:World,w2.heap=w.heap→(Builtin.firstCells sz gs.length (.slice (some ⟨ki.b,0,none⟩) ki.len ki.cap)).run P w2 = .ok news.toArray w2:=by
 obtain⟨arr,h1,h2,h3,h4,h5,hfl⟩:=arow_flat h;refine⟨_,hfl,h3,fun w2 hw2 => ?_⟩;have hle:gs.length*sz≤arr.size:=by rw[h2];exact Nat.mul_le_mul_right _ h5
 simp only[Builtin.firstCells];rw[Z3u (u:=fun m=>arr[m]?.getD undef) (fun m hm=>by
  have hm2:m<arr.size:=by omega
  have:w2.cell? ⟨ki.b,0+m,none⟩=w.cell? ⟨ki.b,0+m,none⟩:=by unfold World.cell?;rw[hw2]
  rw[this,Z5n h1,Nat.zero_add];simp[hm2])]
 congr 2;apply List.ext_getElem?;intro m;rw[List.getElem?_map,List.getElem?_take];by_cases hm:m<gs.length*sz
 ·rw[List.getElem?_range hm,if_pos hm]
  have:m<arr.size:=by omega
  simp[this]
 ·rw[if_neg hm,List.getElem?_eq_none (by rw[List.length_range];omega)];rfl
def xAppT (k2:Nat):Ext where
 f P o s:=match o.op with
  | .call { callee:=.builtin .append,args:=⟨[x,y]⟩,argTypes:=ts }=>match ts[0]? with
   | some st=>match Z65   P st,s.eval y with
    | some (e,sz),.own ky=>match Z5k    P e,s.obj ky with
     | some (by_,sz2),some (.arow sz3 e3 [] (n::ns))=>match Nat.beq sz2 sz&&Nat.beq sz3 sz&&Nat.blt 0 by_&&Z7b    P ts&&Z80      (n::ns) with
      | true=>match s.eval x with
       | .none0=>some ⟨[ky],[k2],.own k2,[(k2,some (.arow sz e [] (n::ns)))],[(n::ns).length*by_≤140737488355328]⟩
       | .own k=>match (s.obj k).bind rowA with
        | some (sz',e',es,fs)=>match Nat.beq sz' sz&&Nat.beq e' e with
         | true=>some ⟨[k,ky],[k2],.own k2,[(k2,some (.arow sz e es (fs++n::ns))),(k,none)],[(es.length+fs.length+(n::ns).length)*by_≤140737488355328]⟩
         | false=>none
        | none=>none
       | _=>none
      | false=>none
     | _,_=>none
    | _,_=>none
   | none=>none
  | _=>none
 ok P o s e he hp:=by
  split at he
  ·rename_i x y ts ho
   split at he
   ·rename_i st hts
    split at he
    ·rename_i el sz ky hel hy
     obtain⟨hu,_⟩:=Z3q hel;split at he
     ·rename_i by_ sz2 sz3 e3 n ns hby hky
      split at he
      ·rename_i hb
       simp only[Bool.and_eq_true,Nat.blt_eq] at hb;obtain⟨⟨⟨⟨b1,b2⟩,b3⟩,b4⟩,b5⟩:=hb;obtain rfl:=Nat.eq_of_beq_eq_true b1;obtain rfl:=Nat.eq_of_beq_eq_true b2;have main:∀ (keys kold:List Nat) (es:List (List Im)) (fs:List (List AVal)),ky∈keys→(∀ k∈kold,k∈keys) →
         ((s.eval x = .none0∧es=[]∧fs=[]∧kold=[])∨∃ k q,s.eval x = .own k∧kold=[k]∧s.obj k=some q∧rowA q=some (sz3,el,es,fs)) →
         (es.length+fs.length+(n::ns).length)*by_≤140737488355328→OpOK P o (mkSp s o keys [k2] (.own k2) ((k2,some (.arow sz3 el es (fs++n::ns)))::kold.map (·,none))):=by
        intro keys kold es fs hkeys hko hx hroom;refine .of fun Γ κ I s2 a w hP hr hn hf => ?_;have hfk:=hf k2 (by simp[mkSp]);have g1:=opd hr hn x (by simp[ho,Op.operands,Call.operands]) rfl;have g2:=opd hr hn y (by simp[ho,Op.operands,Call.operands]) hy;have hky2:=(Z1h hn ky hkeys).trans hky;have hOy:=hr.inv.objs ky _ hky2;have hyr:rowA (.arow sz3 e3 [] (n::ns))=some (sz3,e3,[],n::ns):=rfl;obtain⟨kiy,eκy,hrowy,hyv⟩:∃ ki,κ ky=some ki∧ARow w I κ ki sz3 e3 (n::ns)∧a.eval y = .slice (some ⟨ki.b,0,none⟩) ki.len ki.cap:=by
         rcases rowA_at hyr hOy g2 with ⟨_,_,_,h⟩ | ⟨ki,h1,h2,h3⟩
         ·simp at h
         ·exact⟨ki,h1,h2,h3⟩
        obtain⟨news,hfl,hlen,hcells⟩:=arow_cells (P:=P) hrowy;have hk3:Z5e k2 (n::ns)=false:=hfk.2.1 ky _ hky2;obtain⟨v,w',κ',h1,h2,h3,h4,h5⟩:=appendA_core (P:=P) (ts:=ts) (ty:=o.type) (sv:=a.eval x) (xv:=a.eval y) (news:=news) (kold:=kold) (old:=imL es++fs) (new:=n::ns) (o':=.arow sz3 el es (fs++n::ns)) (k2:=k2) hr.inv hfk hts b4 hu hby b3 (by
         rcases hx with ⟨hx,rfl,rfl,rfl⟩ | ⟨k,q,hx,rfl,hq,hrq⟩
         ·rw[hx] at g1
          obtain⟨base,e⟩:=Z57 g1;exact .inl ⟨base,e,rfl⟩
         ·rw[hx] at g1
          have hq2:=(Z1h hn k (hko k (by simp))).trans hq;rcases rowA_at hrq (hr.inv.objs k _ hq2) g1 with ⟨base,h1,rfl,rfl⟩ | ⟨ki,h1,h2,h3⟩
          ·exact .inl ⟨base,h1,rfl⟩
          ·exact .inr ⟨k,q,ki,rfl,hq2,h1,h2,h3⟩) (by
         rcases hx with ⟨hx,rfl,rfl,rfl⟩ | ⟨k,q,hx,rfl,hq,hrq⟩
         ·rfl
         ·exact rowA_has hrq (hfk.2.1 k _ ((Z1h hn k (hko k (by simp))).trans hq))) hk3 (by simp) (fun w2 _=>by rw[hyv,hlen];simp[Builtin.lenOf]) (by rw[hyv];exact hcells) hfl (flatA_leaf hfl b5) (by rw[List.length_append,Z23];exact hroom)
         (fun w κ ki h=>by show ARow w I κ ki sz3 el (imL es++(fs++n::ns));rw[← List.append_assoc];exact h)
        exact⟨v,_,w',κ',I,.inl rfl,by simp[execOp,ho,resolve,invoke,builtin,h1],h2,fun _ h=>h,h3,h4,h5⟩
       split at he
       ·rename_i hx
        obtain rfl:=Option.some.inj he;obtain⟨h1,_⟩:=hp;exact main [ky] [] [] [] (by simp) (by simp) (.inl ⟨hx,rfl,rfl,rfl⟩) (by simpa using h1)
       ·rename_i k hx
        split at he
        ·rename_i sz' e' es fs hk
         split at he
         ·rename_i hb2
          simp only[Bool.and_eq_true] at hb2;obtain⟨q1,q2⟩:=hb2;obtain rfl:=Nat.eq_of_beq_eq_true q1;obtain rfl:=Nat.eq_of_beq_eq_true q2;obtain rfl:=Option.some.inj he;obtain⟨h1,_⟩:=hp;obtain⟨q,hq,hrq⟩:=Option.bind_eq_some_iff.1 hk;exact main [k,ky] [k] es fs (by simp) (by simp) (.inr ⟨k,q,hx,rfl,hq,hrq⟩) h1
         ·simp at he
        ·simp at he
       ·simp at he
      ·simp at he
     ·simp at he
    ·simp at he
   ·simp at he
  ·simp at he
def xLenT:Ext where
 f P o s:=match o.op with
  | .call { callee:=.builtin .len,args:=⟨[x]⟩,argTypes:=ts }=>match ts[0]? with
   | some t=>match P.underlying t,s.eval x with
    | some (.slice _),.own k=>match s.obj k with
     | some (.arow sz el es fs)=>some ⟨[k],[],.im (.sc (.int .i64 ((es.length+fs.length:Nat):Int))),[],[]⟩
     | _=>none
    | _,_=>none
   | none=>none
  | _=>none
 ok P o s e he hp:=by
  split at he
  ·rename_i x ts ho
   split at he
   ·rename_i t hts
    split at he
    ·rename_i el k hu hx
     split at he
     ·rename_i sz el es fs hk
      obtain rfl:=Option.some.inj he;refine .quiet rfl fun Γ κ I s2 a w hP hr hn => ?_;have g1:=opd hr hn x (by simp[ho,Op.operands,Call.operands]) hx;have hO:=hr.inv.objs k _ ((Z1h hn k (by simp)).trans hk);have hkr:rowA (.arow sz el es fs)=some (sz,el,es,fs):=rfl;have:∃ base c,a.eval x = .slice base (es.length+fs.length) c:=by
       rcases rowA_at hkr hO g1 with ⟨base,h1,rfl,rfl⟩ | ⟨ki,h1,h2,h3⟩
       ·exact⟨base,0,h1⟩
       ·obtain⟨_,h4,_⟩:=h2
        rw[List.length_append,Z23] at h4;exact⟨_,_,h4 ▸ h3⟩
      obtain⟨base,c,e⟩:=this;refine⟨.int .i64 ((es.length+fs.length:Nat):Int),?_,.im (.sc _)⟩;have:=Z7t (P:=P) hu o.type base (es.length+fs.length) c w ts hts;simp[execOp,ho,resolve,invoke,builtin,e,this]
     ·simp at he
    ·simp at he
   ·simp at he
  ·simp at he
def xIdxT (i:Nat):Ext where
 f P o s:=match o.op with
  | .indexAddr t x ix=>match Z65   P t,s.eval x,s.eval ix with
   | some (e,sz),.own k,.im (.sc (.int _ n))=>match s.obj k with
    | some (.arow sz' el es fs)=>match Nat.beq sz' sz&&Nat.blt i fs.length with
     | true=>some ⟨[k],[],.ptr k (es.length+i) 0,[],[n=((es.length+i:Nat):Int)]⟩
     | false=>none
    | _=>none
   | _,_,_=>none
  | _=>none
 ok P o s e he hp:=by
  split at he
  ·rename_i t x ix ho
   split at he
   ·rename_i el sz k kk n hel hx hi
    split at he
    ·rename_i sz' el' es fs hk
     split at he
     ·rename_i hb
      simp only[Bool.and_eq_true,Nat.blt_eq] at hb;obtain⟨b1,b2⟩:=hb;obtain rfl:=Nat.eq_of_beq_eq_true b1;obtain rfl:=Option.some.inj he;obtain⟨rfl,_⟩:=hp;refine .quiet rfl fun Γ κ I s2 a w hP hr hn => ?_;have g1:=opd hr hn x (by simp[ho,Op.operands]) hx;have g2:=(opd hr hn ix (by simp[ho,Op.operands]) hi).sc_inv;have hO:=hr.inv.objs k _ ((Z1h hn k (by simp)).trans hk);have hkr:rowA (.arow sz' el' es fs)=some (sz',el',es,fs):=rfl;rcases rowA_at hkr hO g1 with ⟨base,h1,rfl,rfl⟩ | ⟨ki,h1,h2,h3⟩
      ·simp at b2
      ·obtain⟨c1,c2,c3,_⟩:=h2
       rw[List.length_append,Z23] at c2;have hrun:=Z7f (P:=P) hel (k:=kk) (i:=((es.length+i:Nat):Int)) (b:=ki.b) (off:=0) (len:=ki.len) (cap:=ki.cap) (by omega) (by omega) w;refine⟨.pointer (some ⟨ki.b,0+(es.length+i)*sz',none⟩),?_,?_⟩
       ·rw[Int.toNat_natCast] at hrun
        simp only[execOp,ho,h3,g2,Sem.run_bind,hrun,Result.andThen_ok,Sem.run_pure]
       ·have:=Rep.ptr (w:=w) (I:=I) (e:=es.length+i) (j:=0) h1
        rw[c1] at this;simpa[mkSp] using this
     ·simp at he
    ·simp at he
   ·simp at he
  ·simp at he
theorem place_arow {w:World} {I:Nat→Prop} {κ:Nat→Option KI} {k i j sz el:Nat} {es:List (List Im)} {fs:List (List AVal)} {c:List AVal} {v:Value} (h:Rep w I κ (.ptr k (es.length+i) j) v) (ho:OAt w I κ k (.arow sz el es fs)) (hc:fs[i]? = some c):Place w I κ v (c.drop j):=by
 cases h with
 | @ptr _ _ _ ki ek =>
  simp only[OAt,ek,ORep] at ho;obtain⟨h1,_,_,arr,h3,h4,h5⟩:=ho;obtain⟨he,rfl⟩:=List.getElem?_eq_some_iff.1 hc;have hlt:es.length+i<(imL es++fs).length:=by rw[List.length_append,Z23];omega
  obtain⟨hl,h6⟩:=h5 (es.length+i) hlt;have e1:(imL es++fs)[es.length+i]=fs[i]:=by rw[List.getElem_append_right (by rw[Z23];omega)];simp[Z23]
  refine⟨ki.b,(es.length+i)*ki.sz+j,rfl,fun m=>arr[(es.length+i)*sz+(j+m)]?.getD undef,fun m hm => ?_⟩;simp only[List.length_drop] at hm;obtain⟨v,g1,g2⟩:=h6 (j+m) (by rw[e1];omega);simp only[e1] at g2;rw[Z5n h3,List.getElem_drop,h1,Nat.add_assoc];exact⟨by simp[g1],by simpa[g1] using g2⟩
def xLoadT (i:Nat):Ext where
 f P o s:=match o.op with
  | .load t x=>match aggP P t,s.eval x with
   | some (ag,sz),.ptr k e j=>match s.obj k with
    | some (.arow sz' el es fs)=>match fs[i]? with
     | some c=>match Zal   ag sz (c.drop j) with
      | some r=>some ⟨[k],[],r,[],[e=es.length+i]⟩
      | none=>none
     | none=>none
    | _=>none
   | _,_=>none
  | _=>none
 ok P o s e he hp:=by
  split at he
  ·rename_i t x ho
   split at he
   ·rename_i ag sz k e' j ht hx
    split at he
    ·rename_i sz' el es fs hk
     split at he
     ·rename_i c hc
      split at he
      ·rename_i r hr
       obtain rfl:=Option.some.inj he;obtain⟨rfl,_⟩:=hp;refine .quiet rfl fun Γ κ I s2 a w hP hrel hn => ?_;have h1:=opd hrel hn x (by simp[ho,Op.operands]) hx;have h2:=Z97 hrel.inv ((Z1h hn k (by simp)).trans hk);obtain⟨v,hv,hrep⟩:=Z5t (place_arow h1 h2 hc) ht hr;exact⟨v,by simp[execOp,ho,hv],hrep⟩
      ·simp at he
     ·simp at he
    ·simp at he
   ·simp at he
  ·simp at he
def xStoreT (i:Nat):Ext where
 f P o s:=match o.op with
  | .store t x y=>match aggP P t,s.eval x with
   | some (ag,sz),.ptr k e j=>match s.obj k with
    | some (.arow sz' el es fs)=>match fs[i]? with
     | some c=>match Z2c    (Z10      (s.eval y))&&Nat.blt 0 sz&&Nat.beq (Z10      (s.eval y)).length sz&&Nat.ble (j+sz) c.length with
      | true=>some ⟨[k],[],.top,[(k,some (.arow sz' el es (fs.set i (Z3o c j (Z10 (s.eval y))))))],[e=es.length+i]⟩
      | false=>none
     | none=>none
    | _=>none
   | _,_=>none
  | _=>none
 ok P o s e he hp:=by
  split at he
  ·rename_i t x y ho
   split at he
   ·rename_i ag sz k e' j ht hx
    split at he
    ·rename_i sz' el es fs hk
     split at he
     ·rename_i c hc
      split at he
      ·rename_i hb
       simp only[Bool.and_eq_true,Nat.blt_eq] at hb;obtain⟨⟨⟨hl,h0⟩,hsz⟩,hfit⟩:=hb;have hsz:=Nat.eq_of_beq_eq_true hsz;have hfit:=Nat.le_of_ble_eq_true hfit;obtain rfl:=Option.some.inj he;obtain⟨rfl,_⟩:=hp;refine .of fun Γ κ I s2 a w hP hrel hn hf => ?_;have h1:=opd hrel hn x (by simp[ho,Op.operands]) hx;have h2:=opd hrel hn y (by simp[ho,Op.operands]) rfl;have hk2:=(Z1h hn k (by simp)).trans hk;have h3:=Z97 hrel.inv hk2;obtain⟨v1,v2,v3⟩:=Z2x h2 hl;obtain⟨he,rfl⟩:=List.getElem?_eq_some_iff.1 hc;generalize hp:a.eval x=p at h1;cases h1 with
       | @ptr _ _ _ ki eκ =>
        simp only[OAt,eκ,ORep] at h3;obtain⟨c1,c2,c3,arr,c4,c5,c6⟩:=h3;have hlt:es.length+i<(imL es++fs).length:=by rw[List.length_append,Z23];omega
        have e1:(imL es++fs)[es.length+i]=fs[i]:=by rw[List.getElem_append_right (by rw[Z23];omega)];simp[Z23]
        obtain⟨hel,hcells⟩:=c6 (es.length+i) hlt;rw[e1] at hel;generalize hV:Z10 (s.eval y)=V at *;have hvl:(a.eval y).cells.toList.length=sz:=by rw[← hsz];simpa using v1
        generalize hE:es.length+i=E at *;have hbound:E*sz'+j+sz≤arr.size:=by
         have h4:(E+1)*sz'≤ki.cap*sz':=Nat.mul_le_mul_right _ (by omega);rw[Nat.add_mul] at h4;rw[c5];omega
        let ob:Obj:=.cells (Z21 arr (E*sz'+j) (a.eval y).cells.toList) el (0,0)
        have hrun:(execOp a.eval o).run P w = .ok .skip (World.setBlock w ki.b ob):=by
         have hst:=Z4l (P:=P) (b:=ki.b) (el:=el) (a.eval y).cells.toList w arr (E*sz'+j) 0 c4 (by rw[hvl];omega) v3 (by intro e;rw[e] at hvl;simp at hvl;omega);simp only[execOp,ho,hp,Instr.storeAt,Instr.sureAddr,pure_bind,storeVar,Sem.run_bind,Z1o ht,Result.andThen_ok];rw[if_neg (by simp at hvl;simp[hvl])];simp only[Nat.add_zero] at hst;simp[c1,hst,ob]
        have hb:ki.b<w.heap.size:=(Array.getElem?_eq_some_iff.1 c4).1;have hne:∀ b,I b→(World.setBlock w ki.b ob).heap[b]? = w.heap[b]? := fun b hb'=>by
         rw[Z13 _ _ _ _ hb,if_neg];rintro rfl;exact hrel.inv.disj k _ ki hk2 eκ hb'
        have e2:imL es++fs.set i (Z3o fs[i] j V)=(imL es++fs).set E (Z3o fs[i] j V):=by
         rw[List.set_append,if_neg (by rw[Z23];omega),Z23,show E-es.length=i from by omega]
        have hO:ORep (World.setBlock w ki.b ob) I κ ki (.arow sz' el es (fs.set i (Z3o fs[i] j V))):=by
         show ARow _ _ _ _ _ _ (imL es++fs.set i (Z3o fs[i] j V));rw[e2];have hsl:=Z3t (l:=fs[i]) (r:=V) (j:=j) (by omega);refine⟨c1,by simpa using c2,by simpa using c3,Z21 arr (E*sz'+j) (a.eval y).cells.toList,by rw[Z13 _ _ _ _ hb,if_pos rfl],by rw[Z3c];exact c5,fun q hq => ?_⟩;rw[List.length_set] at hq;by_cases hie:E=q
         ·subst hie
          simp only[List.getElem_set_self];refine⟨by rw[hsl];exact hel,fun m hm => ?_⟩;rw[hsl] at hm;rw[Z2u _ _ _ _ (by rw[hvl];exact hbound),Z6s (by omega)];by_cases hin:j≤m∧m<j+V.length
          ·rw[if_pos (by rw[hvl];omega),dif_pos hin]
           obtain⟨u,q1,q2⟩:=v2 (m-j) (by omega);refine⟨u,?_,q2.mono (fun _ h=>h) hne (fun _ _=>rfl)⟩;rw[show E*sz'+m-(E*sz'+j)=m-j from by omega];simpa using q1
          ·rw[if_neg (by rw[hvl];omega),dif_neg hin]
           obtain⟨u,q1,q2⟩:=hcells m (by rw[e1];exact hm);simp only[e1] at q2;exact⟨u,q1,q2.mono (fun _ h=>h) hne (fun _ _=>rfl)⟩
         ·rw[List.getElem_set_ne hie]
          obtain⟨g1,g2⟩:=c6 q hq;refine⟨g1,fun m hm => ?_⟩;obtain⟨u,q1,q2⟩:=g2 m hm;refine⟨u,?_,q2.mono (fun _ h=>h) hne (fun _ _=>rfl)⟩;rw[Z2u _ _ _ _ (by rw[hvl];exact hbound),if_neg]
          ·exact q1
          ·intro hin
           rw[hvl] at hin;have hm':m<sz':=by rw[← g1];exact hm
           rcases Nat.lt_or_gt_of_ne hie with hlt2 | hgt
           ·have:=Nat.mul_le_mul_right sz' (show E+1≤q from hlt2)
            rw[Nat.add_mul] at this;omega
           ·have:=Nat.mul_le_mul_right sz' (show q+1≤E from hgt)
            rw[Nat.add_mul] at this;omega
        obtain⟨g1,g2⟩:=hrel.inv.update hk2 eκ hO;exact⟨undef,.skip,_,κ,I,.inr ⟨rfl,rfl⟩,hrun,g1,fun _ h=>h,g2,fun _ _ _=>rfl,.top _⟩
      ·simp at he
     ·simp at he
    ·simp at he
   ·simp at he
  ·simp at he
def xOneT (k:Nat):Ext where
 f P o s:=match o.op with
  | .buildSlice t n parts=>match Z65   P t,Z6q      0 parts.toList with
   | some (e,sz),some [x]=>match Z5k    P e with
    | some (by_,sz2)=>match Nat.beq sz2 sz&&Nat.beq n 1&&Nat.beq (Z10      (s.eval x)).length sz&&Z2c    (Z10      (s.eval x))&&Nat.ble sz (2 ^ 24)&&Nat.blt 0 sz with
     | true=>some ⟨[],[k],.own k,[(k,some (.arow sz e [] [Z10 (s.eval x)]))],[]⟩
     | false=>none
    | none=>none
   | _,_=>none
  | _=>none
 ok P o s e he hp:=by
  split at he
  ·rename_i t n parts ho
   split at he
   ·rename_i el sz x hel hxs
    split at he
    ·rename_i by_ sz2 hby
     split at he
     ·rename_i hb
      simp only[Bool.and_eq_true,Nat.blt_eq] at hb;obtain⟨⟨⟨⟨⟨b1,b2⟩,b3⟩,b4⟩,b5⟩,b6⟩:=hb;obtain rfl:=Nat.eq_of_beq_eq_true b1;obtain rfl:=Nat.eq_of_beq_eq_true b2;have b3:=Nat.eq_of_beq_eq_true b3;have b5:=Nat.le_of_ble_eq_true b5;obtain rfl:=Option.some.inj he;have hparts:parts=(Z2o 0 [x]).toArray:=by rw[← Za2 hxs]
      refine .of fun Γ κ I s2 a w hP hr hn hf => ?_;have hfk:=hf k (by simp[mkSp]);have hx:=opd hr hn x (by simp[ho,Op.operands,hparts,Z2o]) rfl;obtain⟨v1,v2,v3⟩:=Z2x hx b4;obtain⟨hu,ag,hag⟩:=Z3q hel;obtain⟨i,z,hi,hz,hb1,hb2,hb3⟩:=Z72 hby;have hxs2:(a.eval x).cells.size=sz2:=by rw[v1,b3]
      obtain⟨arr,ha1,ha2⟩:=fill_all (sz:=sz2) [a.eval x] 0 ((Array.range (1*sz2)).map (z.cells[· % z.cells.size]!)) (by simpa using hxs2) (by simp);simp only[Nat.zero_mul,List.take_zero,List.nil_append,List.flatMap_cons,List.flatMap_nil,List.append_nil] at ha2;have hpm:(parts.map fun(x:Nat×Operand)=>match x with | (i,x)=>(i,a.eval x))=(Z2o 0 [a.eval x]).toArray:=by
       rw[hparts];simp[Z2o]
      have hrun:(execOp a.eval o).run P w = .ok (.value (.slice (some ⟨w.heap.size,0,none⟩) 1 1)) (World.alloc' w (.cells arr el)):=by
       simp only[execOp,ho,Instr.buildSlice];have h24:¬ (1*sz2>2 ^ 24):=by omega
       have h0:¬ (1*sz2=0):=by omega
       rw[hpm];simp only[Sem.run_bind,Zx hu,Result.andThen_ok,Z1o hag];rw[if_neg h24,if_neg h0];simp only[Sem.run_bind,zeroValue,Z1l hi,Result.andThen_ok,hz,pure_bind,Sem.run_pure,ha1];simp[newRow,newObj,Sem.run,World.alloc']
      let ki:KI:=⟨w.heap.size,1,sz2,1⟩
      have hk3:hasL k (Z10 (s.eval x))=false:=by
       have h1:=Z8x hfk x;rw[Z2d hn x (by simp[ho,Op.operands,hparts,Z2o])] at h1;rw[Z6m];exact h1
      have hO:ORep (World.alloc' w (.cells arr el)) I (setK κ k (some ki)) ki (.arow sz2 el [] [Z10 (s.eval x)]):=by
       refine arow_of (vs:=(a.eval x).cells.toList) (rest:=[]) ?_ ⟨by simp[hxs2,imL],fun i hi => ?_,fun i hi j hj => ?_⟩ rfl (by simp[ki,imL]) (by simp[ki,imL]) (by simp[hxs2,ki])
       ·rw[List.append_nil,← ha2];exact Z4b _ _
       ·have:i=0:=by simpa[imL] using hi
        subst this;exact b3
       ·have:i=0:=by simpa[imL] using hi
        subst this;obtain⟨u,e,r⟩:=v2 j hj;refine⟨u,by simpa using e,r.mono (fun _ h=>h) (fun b hb=>Z4c _ _ _ (hr.inv.bound b hb)) (fun q hq=>Z6d _ _ _ ?_)⟩;rintro rfl;rw[Z49 hk3 j hj] at hq;cases hq
      obtain⟨q1,q2,q3⟩:=hr.inv.alloc hfk (ki:=ki) rfl hO;exact⟨_,_,_,setK κ k (some ki),I,.inl rfl,hrun,q1,fun _ h=>h,q2,q3,Rep.own (k:=k) (ki:=ki) (Z1n ..)⟩
     ·simp at he
    ·simp at he
   ·simp at he
  ·simp at he
theorem cut_w0 {n:Nat} (h:(n+2)*24≤140737488355328):IntKind.i64.wrap ((n+1:Nat)-(1:Int))=((n+0:Nat):Int):=by
 rw[Z0b (by omega) (by omega)];omega
theorem cut_w1 {n:Nat} (h:(n+2)*24≤140737488355328):IntKind.i64.wrap (IntKind.i64.wrap ((n+1:Nat)+(1:Int))-(1:Int))=((n+1:Nat):Int):=by
 rw[Z0b (n:=((n+1:Nat):Int)+1) (by omega) (by omega),Z0b (by omega) (by omega)];omega
def NAt (w:World) (I:Nat→Prop) (sz el:Nat) (v:Value) (es:List (List Im)) (B:List Nat):Prop :=
 (∃ base,v = .slice base 0 0∧es=[]∧B=[])∨∃ ki:KI,B=[ki.b]∧v = .slice (some ⟨ki.b,0,none⟩) ki.len ki.cap∧ORep w I (fun _=>none) ki (.row sz el es)
theorem NAt.mono {w w':World} {I I':Nat→Prop} {sz el:Nat} {v:Value} {es:List (List Im)} {B:List Nat} (h:NAt w I sz el v es B) (hB:∀ b∈B,w'.heap[b]? = w.heap[b]?) (hI:∀ b,I b→I' b) (hw:∀ b,I b→w'.heap[b]? = w.heap[b]?):NAt w' I' sz el v es B:=by
 rcases h with h | ⟨ki,rfl,h2,h3⟩
 ·exact .inl h
 ·exact .inr ⟨ki,rfl,h2,h3.mono hI hw (hB _ (by simp)) (fun _ _=>rfl)⟩
def nest (sz el:Nat) (u:List Value) (gs:List (List (List Im))) (Bs:List (List Nat)):Gh where
 B:=Bs.flatten
 G w I:=u.length=gs.length∧Bs.length=gs.length∧Bs.flatten.Nodup∧∀ i (h:i<gs.length) (h1:i<u.length) (h2:i<Bs.length),NAt w I sz el u[i] gs[i] Bs[i]
 mono w w' I I' hB hI hw h:=⟨h.1,h.2.1,h.2.2.1,fun i h0 h1 h2=>(h.2.2.2 i h0 h1 h2).mono (fun b hb=>hB b (List.mem_flatten.2 ⟨_,List.getElem_mem h2,hb⟩)) hI hw⟩
theorem Z9a {Bs:List (List Nat)} {i:Nat} {x:List Nat} {b:Nat} (h:b∈(Bs.set i x).flatten):b∈Bs.flatten∨b∈x:=by
 obtain⟨l,hl,hb⟩:=List.mem_flatten.1 h;rcases List.mem_or_eq_of_mem_set hl with h | rfl
 ·exact .inl (List.mem_flatten.2 ⟨l,h,hb⟩)
 ·exact .inr hb
theorem Z46 {α:Type} (l:List α) (i:Nat) (h:i<l.length) (x:α):l=l.take i++l[i]::l.drop (i+1)∧l.set i x=l.take i++x::l.drop (i+1):=by
 refine⟨by simp,?_⟩;rw[List.set_eq_take_append_cons_drop,if_pos h]
theorem Z9w {Bs:List (List Nat)} {i:Nat} (h:i<Bs.length) (hn:Bs.flatten.Nodup):(Bs.set i []).flatten.Nodup∧∀ b∈Bs[i],b ∉ (Bs.set i []).flatten:=by
 obtain⟨e1,e2⟩:=Z46 Bs i h [];rw[e1] at hn;rw[e2];simp only[List.flatten_append,List.flatten_cons,List.nil_append] at hn ⊢;rw[List.nodup_append] at hn;obtain⟨h1,h2,h3⟩:=hn;rw[List.nodup_append] at h2;refine⟨List.nodup_append.2 ⟨h1,h2.2.1,fun a ha b hb=>h3 a ha b (List.mem_append_right _ hb)⟩,fun b hb hc => ?_⟩;rcases List.mem_append.1 hc with hc | hc
 ·exact h3 b hc b (List.mem_append_left _ hb) rfl
 ·exact h2.2.2 b hb b hc rfl
theorem ORep.data {w:World} {I:Nat→Prop} {κ:Nat→Option KI} {ki:KI} {sz el:Nat} {es:List (List Im)} (h:ORep w I κ ki (.row sz el es)) {I':Nat→Prop} (hI:∀ b,I b→I' b) (hb:I' ki.b):IRep w I' (.row es) (.slice (some ⟨ki.b,0,none⟩) ki.len ki.cap):=by
 obtain⟨h1,h2,h3,arr,h4,h5,h6⟩:=h;refine .row (sz:=sz) (fun i j=>(arr[i*sz+j]?).getD undef) h2 hb (by rw[h2];exact h3) (fun i h=>(h6 i h).1) (fun i j hi hj => ?_) (fun i hi j hj => ?_)
 ·obtain⟨e1,e2⟩:=h6 i hi
  obtain⟨v,e3,_⟩:=e2 j (by rw[e1];exact hj);unfold World.cell?;simp only[h4,Nat.zero_add,e3];rfl
 ·obtain⟨e1,e2⟩:=h6 i hi
  obtain⟨v,e3,e4⟩:=e2 j hj;rw[e3];exact e4.mono hI (fun _ _=>rfl)
structure InsOut (w w':World) (el:Nat) (us:List Value) (old:Option Nat) (v:Value):Prop where
 out:∃ nb cap arr,v = .slice (some ⟨nb,0,none⟩) us.length cap∧us.length≤cap∧w'.heap[nb]? = some (.cells arr el (0,0))∧arr.size=cap∧(∀ j (h:j<us.length),arr[j]? = some us[j]) ∧
  (∀ b,b<w.heap.size→b≠nb→w'.heap[b]? = w.heap[b]?)∧(old=some nb∨w.heap.size≤nb)
 os:w'.os=w.os
 tape:w'.tape=w.tape
 output:w'.output=w.output
 size:w.heap.size≤w'.heap.size
def hasO (s:Z6) (q k:Nat):Bool:=match s.obj q with
 | some o=>o.has k
 | none=>false
def freshX (ex:List Nat) (s:Z6) (k:Nat):Bool :=
 s.slots.all (fun p => !(p.2.has k))&&s.objs.all (fun p=>isIn p.1 ex||match p.2 with | some o => !(o.has k) | none=>true)&&(s.obj k).isNone&&Nat.ble s.floor k
def newsP (ex:List Nat) (s:Z6):List Nat→List Prop
 | []=>[]
 | k::r=>ex.map (fun q=>hasO s q k=false)++newsP ex s r
theorem AllP_mem:∀ {l:List Prop},AllP l→∀ p∈l,p
 | p::r,h,q,hq=>by
  rcases List.mem_cons.1 hq with rfl | hq
  ·exact h.1
  ·exact AllP_mem h.2 q hq
theorem Zar {ex:List Nat} {s:Z6} {k:Nat} (h:freshX ex s k=true) (hp:∀ q∈ex,hasO s q k=false):s.fresh k:=by
 simp only[freshX,Bool.and_eq_true] at h;obtain⟨⟨⟨h1,h2⟩,h3⟩,h4⟩:=h;refine⟨fun x => ?_,fun k' o ho => ?_,by simpa using h3,Nat.le_of_ble_eq_true h4⟩
 ·unfold     Z6.get
  cases e:look s.slots x with
  | none=>rfl
  | some v=>have:=List.all_eq_true.1 h1 _ (Z1e e);simpa using this
 ·by_cases hx:isIn k' ex=true
  ·have:=hp k' (     Z62.1 hx)
   unfold hasO at this;rw[ho] at this;exact this
  ·unfold     Z6.obj at ho
   cases e:look s.objs k' with
   | none=>rw[e] at ho;simp at ho
   | some v =>
    rw[e] at ho;have hv:v=some o:=ho;subst hv;have:=List.all_eq_true.1 h2 _ (Z1e e);simp only[Bool.not_eq_true] at hx;simpa[hx] using this
theorem newsP_ok {ex:List Nat} {s:Z6}:∀ {l:List Nat},l.all (freshX ex s)=true→AllP (newsP ex s l)→∀ k∈l,s.fresh k
 | [],_,_,k,hk=>nomatch hk
 | x::r,h,hp,k,hk=>by
  simp only[List.all_cons,Bool.and_eq_true] at h;obtain⟨p1,p2⟩:=Z5d hp;rcases List.mem_cons.1 hk with rfl | hk
  ·exact Zar h.1 (fun q hq=>AllP_mem p1 _ (List.mem_map.2 ⟨q,hq,rfl⟩))
  ·exact newsP_ok h.2 p2 k hk
def Z8m (P:Program) (n:Nat) (ops:Array Oper) (hints:List (Nat×Hint)) (ex:List Nat):List Oper→Nat→Z6→Option (List Item×Z6×List Prop)
 | [],_,s=>some ([],s,[])
 | o::r,i,s=>match dstB n o with
  | false=>none
  | true=>match goesA ops o s with
   | some false=>match Z8m     P n ops hints ex r (i+1) (s.put o.dst (.im (.sc undef))) with
    | some (its,s',ps)=>some ((o,.skip)::its,s',ps)
    | none=>none
   | some true=>match Zbo    P (hintAt hints i) o s with
    | some e=>match e.news.all (freshX ex s) with
     | true=>match Z8m     P n ops hints ex r (i+1) ((s.objput e.post).put o.dst e.res) with
      | some (its,s',ps)=>some ((o,.run (mkSp s o e.keys e.news e.res e.post))::its,s',e.props++(newsP ex s e.news++ps))
      | none=>none
     | false=>none
    | none=>none
   | none=>none
theorem runOpsX_ok {P:Program} {n:Nat} {ops:Array Oper} {hints:List (Nat×Hint)} {ex:List Nat}:∀ {l:List Oper} {i:Nat} {s s':Z6} {its:List Item} {ps:List Prop},Z8m P n ops hints ex l i s=some (its,s',ps)→AllP ps →
  its.map (·.1)=l∧Z4x P ops its s∧Z3f its s=s'∧its.all (fun it=>match it.1.dst with | some d=>Nat.blt d n | none=>true)=true:=by
 intro l
 induction l with
 | nil =>
  intro i s s' its ps h _;simp[Z8m] at h;obtain⟨rfl,rfl,rfl⟩:=h;exact⟨rfl,trivial,rfl,rfl⟩
 | cons o r ih =>
  intro i s s' its ps h hp;unfold Z8m at h;split at h
  ·simp at h
  ·rename_i hd
   split at h
   ·rename_i hg
    split at h
    ·rename_i its' s'' ps' hr
     simp at h;obtain⟨rfl,rfl,rfl⟩:=h;obtain⟨g1,g2,g3,g4⟩:=ih hr hp;refine⟨by simp[g1],⟨Z9v hg,fun k hk=>by simp[Item.news] at hk,g2⟩,g3,?_⟩;simp only[List.all_cons,Bool.and_eq_true];exact⟨hd,g4⟩
    ·simp at h
   ·rename_i hg
    split at h
    ·rename_i e he
     split at h
     ·rename_i hf
      split at h
      ·rename_i its' s'' ps' hr
       simp at h;obtain⟨rfl,rfl,rfl⟩:=h;obtain⟨p1,p2⟩:=Z5d hp;obtain⟨p3,p4⟩:=Z5d p2;obtain⟨g1,g2,g3,g4⟩:=ih hr p4;refine⟨by simp[g1],⟨⟨Z9v hg,Zbe ..,Z8a he p1⟩,fun k hk=>newsP_ok hf p3 k hk,g2⟩,g3,?_⟩;simp only[List.all_cons,Bool.and_eq_true];exact⟨hd,g4⟩
      ·simp at h
     ·simp at h
    ·simp at h
   ·simp at h
def itsNews (its:List Item):List Nat:=its.flatMap (·.news)
def Z8o (P:Program) (n:Nat) (draw:Bool) (ops:List Oper) (hints:List (Nat×Hint)) (ex live keeps:List Nat) (s:Z6):Option (Z6×List Prop) :=
 match Z8m P n ops.toArray hints ex ops 0 s with
 | some (its,s',ps)=>match draw with
  | false=>some (Z3g live keeps s',ps)
  | true=>match Z5r    ops.toArray (Z6j   ops []) [] its&&(itsNews its).all (freshX ex s) with
   | true=>some (Z3g live keeps s',newsP ex s (itsNews its)++ps)
   | false=>none
 | none=>none
theorem AWp.regionX {Γ:Ctx} {id:Nat} {draw:Bool} {Q:Exit→Z6→Prop} {s:Z6} {ops:List Oper} (hints:List (Nat×Hint)) (ex live keeps:List Nat) (s':Z6) (ps:List Prop) (hm:Γ.P.follows .mixedOrders=true) (h:Z8o Γ.P Γ.n draw ops hints ex live keeps s=some (s',ps)) (hp:AllP ps) (hq:Q .normal s'):AWp Γ (.region id ops.toArray draw) Q s:=by
 unfold Z8o at h;split at h
 ·rename_i its s2 ps2 hr
  have fin:s'=Z3g live keeps s2→AllP ps2→(draw=true→Z5r ops.toArray (Z6j ops []) [] its=true∧∀ k∈itsNews its,s.fresh k)→AWp Γ (.region id ops.toArray draw) Q s:=by
   intro e1 hps hdraw;obtain⟨g1,g2,g3,g4⟩:=runOpsX_ok hr hps;have hq':∀ a w,Sat Γ s2 a w→∃ s3,Sat Γ s3 a w∧Q .normal s3:=fun a w h=>⟨s',e1 ▸ Z6f h live keeps,hq⟩
   subst g1;cases draw with
   | false =>
    intro a w hs;exact Code.wp_mono (fun e a w ⟨s3,h1,h2⟩=>by
     cases e with
     | normal=>simp only at h2;subst h2;exact hq' a w (g3 ▸ h1)
     | _=>exact h2.elim) (Z6g (Q:=fun e s3=>match e with | .normal=>s3=Z3f its s | _=>False) its g4 g2 rfl a w hs)
   | true =>
    obtain⟨d1,d2⟩:=hdraw rfl;have hf:∀ it∈its,∀ k∈it.news,s.fresh k:=fun it hit k hk=>d2 k (List.mem_flatMap.2 ⟨it,hit,hk⟩)
    intro a w hs;exact Code.wp_mono (fun e a w ⟨s3,h1,h2⟩=>by
     cases e with
     | normal=>simp only at h2;subst h2;exact hq' a w (g3 ▸ h1)
     | _=>exact h2.elim) (Z7g (Q:=fun e s3=>match e with | .normal=>s3=Z3f its s | _=>False) hm its g4 d1 g2 hf rfl a w hs)
  split at h
  ·simp at h;exact fin h.1.symm (h.2 ▸ hp) (fun e=>by simp at e)
  ·split at h
   ·rename_i hb
    simp only[Bool.and_eq_true] at hb;simp only[Option.some.injEq,Prod.mk.injEq] at h;have hp:=h.2 ▸ hp;obtain⟨p1,p2⟩:=Z5d hp;exact fin h.1.symm p2 (fun _=>⟨hb.1,newsP_ok hb.2 p1⟩)
   ·simp at h
 ·simp at h
def LAw (Γ:Ctx) (l:List Oper) (Q:Z6→Prop) (s:Z6):Prop:=∀ a w,Sat Γ s a w→wpList Γ.P l.toArray (fun e a' w'=>e = .normal∧∃ s',Sat Γ s' a' w'∧Q s') l a w
theorem LAw.run {P:Program} {n:Nat} {Γ:Ctx} (hP:Γ.P=P) (hn:Γ.n=n) {Q:Z6→Prop} {s:Z6} {ops:List Oper} (hints:List (Nat×Hint)) (ch:List (Nat×AVal)) (live:List Nat) (oc:List (Nat×Option MObj)) (keeps:List Nat) (ps:List Prop) (hp:AllP ps) (hq:Q (up s ch live oc keeps)) (h:Z37 P n false ops hints live keeps s=some (up s ch live oc keeps,ps):=by kernel_rfl):LAw Γ ops Q s:=by
 subst hP;subst hn;unfold Z37 at h;split at h
 ·rename_i its s2 ps2 hr
  simp only[Option.some.injEq,Prod.mk.injEq] at h;obtain⟨e1,rfl⟩:=h;obtain⟨g1,g2,g3,g4⟩:=Za8 hr hp;intro a w hs;have hl:∀ it∈its,∀ d,it.1.dst=some d→d<Γ.n:=by
   intro it hit d e;have:=List.all_eq_true.1 g4 it hit;rw[e] at this;simpa[Nat.blt_eq] using this
  have hnn:∀ (j:Nat) (o':Oper),ops.toArray[j]? = some o'→∀ d,o'.dst=some d→d<Γ.n:=by
   intro j o' ho d e;have:o'∈its.map (·.1):=by
    have:=Array.mem_of_getElem? ho;rw[g1];simpa using this
   obtain⟨it,hit,rfl⟩:=List.mem_map.1 this;exact hl it hit d e
  have:=wp_items (Γ:=Γ) (ops:=ops.toArray) (Q:=fun e a' w'=>e = .normal∧∃ s',Sat Γ s' a' w'∧Q s') hnn its hl s a w hs g2 (fun a' w' h=>⟨rfl,_,Z6f (g3 ▸ h) live keeps,by rw[e1];exact hq⟩);rw[g1] at this;exact this
 ·simp at h
theorem GWp.post {Γ:Ctx} {c:Code} {Q:Exit→Z6→Gh→Prop} {s:Z6} {g:Gh} (h:GWp Γ c (fun e s' g'=>∀ a w,GSat Γ s' g' a w→∃ s2 g2,GSat Γ s2 g2 a w∧Q e s2 g2) s g):GWp Γ c Q s g :=
 fun a w hs=>Code.wp_mono (fun e a w ⟨s',g',h1,h2⟩=>h2 a w h1) (h a w hs)
theorem GLWp.mono {Γ:Ctx} {c:Code} {Q Q':Exit→Z6→Gh→Prop} {s:Z6} {g:Gh} (h:GLWp Γ c Q s g) (hq:∀ e s g,Q e s g→Q' e s g):GLWp Γ c Q' s g :=
 fun a w hs b k cs=>let ⟨e,a',w',⟨s',g',h1,h2⟩,h3⟩:=h a w hs b k cs;⟨e,a',w',⟨s',g',h1,hq _ _ _ h2⟩,h3⟩
theorem GWp.loopB {Γ:Ctx} {c:Code} {Q:Exit→Z6→Gh→Prop} {s:Z6} {g:Gh} (h:∀ c',c'=c→GLWp Γ c' Q s g):GWp Γ (.loop c) Q s g:=GWp.loop (h c rfl)
theorem gR {P:Program} {n:Nat} {Γ:Ctx} (hP:Γ.P=P) (hn:Γ.n=n) (hm:P.follows .mixedOrders=true) {id:Nat} {draw:Bool} {Q:Exit→Z6→Gh→Prop} {s:Z6} {g:Gh} {ops:List Oper} (hints:List (Nat×Hint)) (ch:List (Nat×AVal)) (live:List Nat) (oc:List (Nat×Option MObj)) (keeps:List Nat) (ps:List Prop) (hp:AllP ps) (hq:Q .normal (up s ch live oc keeps) g) (h:Z37 P n draw ops hints live keeps s=some (up s ch live oc keeps,ps):=by kernel_rfl):GWp Γ (.region id ops.toArray draw) Q s g:=GWp.frame fun Γ' e1 e2=>rG (e1.trans hP) (e2.trans hn) hm hints ch live oc keeps ps hp ⟨rfl,hq⟩ h
theorem gS {P:Program} {n:Nat} {Γ:Ctx} (hP:Γ.P=P) (hn:Γ.n=n) (hm:P.follows .mixedOrders=true) {id:Nat} {draw:Bool} {y:Code} {Q:Exit→Z6→Gh→Prop} {s:Z6} {g:Gh} {ops:List Oper} (hints:List (Nat×Hint)) (ch:List (Nat×AVal)) (live:List Nat) (oc:List (Nat×Option MObj)) (keeps:List Nat) (ps:List Prop) (hp:AllP ps) (hq:GWp Γ y Q (up s ch live oc keeps) g) (h:Z37 P n draw ops hints live keeps s=some (up s ch live oc keeps,ps):=by kernel_rfl):GWp Γ (.seq (.region id ops.toArray draw) y) Q s g:=GWp.seq (gR hP hn hm hints ch live oc keeps ps hp hq h)
theorem gK {P:Program} {n:Nat} {Γ:Ctx} (hP:Γ.P=P) (hn:Γ.n=n) (hm:P.follows .mixedOrders=true) {id:Nat} {draw:Bool} {Q:Exit→Z6→Gh→Prop} {s:Z6} {g:Gh} {ops:List Oper} (hints:List (Nat×Hint)) (ch:List (Nat×AVal)) (live:List Nat) (oc:List (Nat×Option MObj)) (keeps:List Nat) (ps:List Prop) (inv:List (Nat×Nat)) (vk e0:List Nat) (t:Z6) (hp:AllP ps) (ht:t.floor=s.floor) (hq:Q .normal t g) (h:Z37 P n draw ops hints live keeps s=some (up s ch live oc keeps,ps):=by kernel_rfl) (hc:Z9l (up s ch live oc keeps) inv vk e0 t=some t:=by kernel_rfl):GWp Γ (.region id ops.toArray draw) Q s g :=
 GWp.frame fun Γ' e1 e2=>AWp.cv (rG (e1.trans hP) (e2.trans hn) hm hints ch live oc keeps ps hp (lf inv vk e0 hc ⟨ht,hq⟩) h)
theorem gX {P:Program} {n:Nat} {Γ:Ctx} (hP:Γ.P=P) (hn:Γ.n=n) (hm:P.follows .mixedOrders=true) {id:Nat} {draw:Bool} {Q:Exit→Z6→Gh→Prop} {s:Z6} {g:Gh} {ops:List Oper} (hints:List (Nat×Hint)) (ex:List Nat) (ch:List (Nat×AVal)) (live:List Nat) (oc:List (Nat×Option MObj)) (keeps:List Nat) (ps:List Prop) (hp:AllP ps) (hq:Q .normal (up s ch live oc keeps) g) (h:Z8o P n draw ops hints ex live keeps s=some (up s ch live oc keeps,ps):=by kernel_rfl):GWp Γ (.region id ops.toArray draw) Q s g:=GWp.frame fun Γ' e1 e2=>by
 have hP':=e1.trans hP;have hn':=e2.trans hn;rw[← hP',← hn'] at h;exact AWp.regionX hints ex live keeps _ ps (by rw[hP'];exact hm) h hp ⟨rfl,hq⟩
theorem AWp.nest {Γ:Ctx} {c:Code} {Q:Exit→Z6→Prop} {s:Z6} {sz el:Nat} (h:GWp Γ c (fun e s' _=>Q e s') s (nest sz el [] [] [])):AWp Γ c Q s:=by
 rintro a w ⟨κ,I,hr⟩;refine Code.wp_mono (fun e a' w' ⟨s',g',⟨κ',I',r',_⟩,hq⟩=>⟨s',⟨κ',I',r'⟩,hq⟩) (h a w ⟨κ,I,hr,⟨⟨rfl,rfl,List.nodup_nil,fun i h=>absurd h (Nat.not_lt_zero _)⟩,?_,?_,?_,?_⟩⟩)<;>(intro b hb;cases hb)
theorem GWp.data {Γ:Ctx} {c:Code} {Q:Exit→Z6→Prop} {s t:Z6} {g:Gh} (hc:∀ a w,GSat Γ s g a w→Sat Γ t a w) (h:AWp Γ c Q t):GWp Γ c (fun e s' _=>Q e s') s g:=by
 intro a w hs;refine Code.wp_mono (fun e a' w' ⟨s',⟨κ,I,hr⟩,hq⟩=>⟨s',nest 0 0 [] [] [],⟨κ,I,hr,⟨⟨rfl,rfl,List.nodup_nil,fun i h=>absurd h (Nat.not_lt_zero _)⟩,?_,?_,?_,?_⟩⟩,hq⟩) (h a w (hc a w hs))<;>(intro b hb;cases hb)
theorem GWp.fact {Γ:Ctx} {c:Code} {Q:Exit→Z6→Gh→Prop} {s:Z6} {g:Gh} (φ:Prop) (hf:∀ a w,GSat Γ s g a w→φ) (h:φ→GWp Γ c Q s g):GWp Γ c Q s g:=fun a w hs=>h (hf a w hs) a w hs
theorem GLWp.fact {Γ:Ctx} {c:Code} {Q:Exit→Z6→Gh→Prop} {s:Z6} {g:Gh} (φ:Prop) (hf:∀ a w,GSat Γ s g a w→φ) (h:φ→GLWp Γ c Q s g):GLWp Γ c Q s g:=fun a w hs=>h (hf a w hs) a w hs
theorem GLWp.cv {Γ:Ctx} {c:Code} {Q:Exit→Z6→Gh→Prop} {s s':Z6} {g g':Gh} (hc:GCv Γ s g s' g') (h:GLWp Γ c Q s' g'):GLWp Γ c Q s g:=fun a w hs=>h a w (hc a w hs)
structure Bun where
 v:Value
 h:AVal
 objs:List (Nat×MObj)
def BunAt (w:World) (I:Nat→Prop) (b:Bun) (B:List Nat):Prop :=
 ∃ κ:Nat→Option KI,Rep w I κ b.h b.v∧(∀ k o,look b.objs k=some o→OAt w I κ k o) ∧
  (∀ k k' o o' ki ki',look b.objs k=some o→look b.objs k'=some o'→κ k=some ki→κ k'=some ki'→ki.b=ki'.b→k=k') ∧
  ∀ k o ki,look b.objs k=some o→κ k=some ki→ki.b∈B
theorem OAt.mono' {w w':World} {I I':Nat→Prop} {κ:Nat→Option KI} {k:Nat} {o:MObj} (h:OAt w I κ k o) (hI:∀ b,I b→I' b) (hw:∀ b,I b→w'.heap[b]? = w.heap[b]?) (hb:∀ ki,κ k=some ki→w'.heap[ki.b]? = w.heap[ki.b]?):OAt w' I' κ k o:=by
 unfold OAt at h ⊢;cases e:κ k with
 | none=>rw[e] at h;exact h
 | some ki=>rw[e] at h;exact h.mono hI hw (hb ki e) (fun _ _=>rfl)
theorem BunAt.mono {w w':World} {I I':Nat→Prop} {b:Bun} {B:List Nat} (h:BunAt w I b B) (hB:∀ b∈B,w'.heap[b]? = w.heap[b]?) (hI:∀ b,I b→I' b) (hw:∀ b,I b→w'.heap[b]? = w.heap[b]?):BunAt w' I' b B:=by
 obtain⟨κ,h1,h2,h3,h4⟩:=h;exact⟨κ,h1.mono hI hw (fun _ _=>rfl),fun k o e=>(h2 k o e).mono' hI hw (fun ki ek=>hB _ (h4 k o ki e ek)),h3,h4⟩
def bag (bs:List Bun) (Bs:List (List Nat)):Gh where
 B:=Bs.flatten
 G w I:=bs.length=Bs.length∧Bs.flatten.Nodup∧∀ i (h1:i<bs.length) (h2:i<Bs.length),BunAt w I bs[i] Bs[i]
 mono w w' I I' hB hI hw h:=⟨h.1,h.2.1,fun i h1 h2=>(h.2.2 i h1 h2).mono (fun b hb=>hB b (List.mem_flatten.2 ⟨_,List.getElem_mem h2,hb⟩)) hI hw⟩
def Z7d (s:Z6) (F x:Nat) (b:Bun):Z6 := { slots:=(x,b.h)::s.slots,objs:=b.objs.map (fun p=>(p.1,some p.2))++s.objs,floor:=F }
def sansB (s:Z6) (fl:Nat) (KB:List Nat):Z6 := { slots:=s.slots,objs:=KB.map (fun k=>(k,none))++s.objs,floor:=fl }
theorem look_sans (KB:List Nat) (k:Nat):look (KB.map (fun k=>(k,(none:Option MObj)))) k=if k∈KB then some none else none:=by
 induction KB with
 | nil=>simp[look]
 | cons a r ih =>
  rw[List.map_cons,Z19,ih];by_cases e:a=k
  ·simp[e]
  ·have e':¬ k=a:=fun q=>e q.symm
   simp[e,e']
theorem obj_sans (s:Z6) (fl:Nat) (KB:List Nat) (k:Nat):(sansB s fl KB).obj k=if k∈KB then none else s.obj k:=by
 show(look (KB.map (fun k=>(k,(none:Option MObj)))++s.objs) k).getD none=_;rw[Z3p,look_sans];by_cases e:k∈KB
 ·simp[e]
 ·simp[e];rfl
theorem look_some (l:List (Nat×MObj)) (k:Nat):look (l.map (fun p=>(p.1,some p.2))) k=(look l k).map some:=by
 induction l with
 | nil=>rfl
 | cons p l ih =>
  obtain⟨a,o⟩:=p;rw[List.map_cons,Z19,Z19,ih];by_cases e:a=k<;>simp[e]
theorem obj_with (s:Z6) (F x:Nat) (b:Bun) (k:Nat):(Z7d s F x b).obj k=match look b.objs k with
  | some o=>some o
  | none=>s.obj k:=by
 show(look (b.objs.map (fun p=>(p.1,some p.2))++s.objs) k).getD none=_;rw[Z3p,look_some];cases look b.objs k<;>rfl
theorem Z8z {Bs:List (List Nat)} (hn:Bs.flatten.Nodup) {i:Nat} (hi:i<Bs.length) {b:Nat} (hb:b∈(Bs.set i []).flatten):b∈Bs.flatten∧b ∉ Bs[i]:=by
 refine⟨?_,fun h=>(Z9w hi hn).2 b h hb⟩;rcases Z9a hb with h | h
 ·exact h
 ·cases h
theorem flat_put {Bs:List (List Nat)} {i:Nat} (hi:i<Bs.length) (hn:Bs.flatten.Nodup) {B':List Nat} (h1:B'.Nodup) (h2:∀ b∈B',b ∉ (Bs.set i []).flatten):(Bs.set i B').flatten.Nodup:=by
 obtain⟨n1,_⟩:=Z9w hi hn;have e1:=(Z46 Bs i hi B').2;have e2:=(Z46 Bs i hi []).2;rw[e2] at n1 h2;rw[e1];simp only[List.flatten_append,List.flatten_cons,List.nil_append] at n1 h2 ⊢;rw[List.nodup_append] at n1 ⊢;obtain⟨a1,a2,a3⟩:=n1;refine⟨a1,List.nodup_append.2 ⟨h1,a2,fun a ha b hb e=>h2 a ha (List.mem_append_right _ (e ▸ hb))⟩,fun a ha b hb => ?_⟩;rcases List.mem_append.1 hb with hb | hb
 ·exact fun e=>h2 b hb (List.mem_append_left _ (e ▸ ha))
 ·exact a3 a ha b hb
def Z4p (κ:Nat→Option KI) (s:Z6):List Nat→List Nat
 | []=>[]
 | k::r=>match s.obj k,κ k with
  | some _,some ki=>ki.b::Z4p κ s r
  | _,_=>Z4p κ s r
theorem Z3e {κ:Nat→Option KI} {s:Z6}:∀ {KB:List Nat} {b:Nat},b∈Z4p κ s KB↔∃ k∈KB,∃ o ki,s.obj k=some o∧κ k=some ki∧ki.b=b
 | [],b=>by simp[Z4p]
 | k::r,b=>by
  have ih:=@Z3e κ s r b;rw[Z4p];cases e1:s.obj k with
  | none =>
   simp only[List.mem_cons,exists_eq_or_imp,e1];rw[ih];simp
  | some o =>
   cases e2:κ k with
   | none=>simp only[List.mem_cons,exists_eq_or_imp,e1,e2];rw[ih];simp
   | some ki =>
    simp only[List.mem_cons,exists_eq_or_imp,e1,e2];rw[ih];constructor
    ·rintro(h | h)
     ·exact .inl ⟨o,ki,rfl,rfl,h.symm⟩
     ·exact .inr h
    ·rintro(⟨o',ki',q1,q2,q3⟩ | h)
     ·cases q2;exact .inl q3.symm
     ·exact .inr h
theorem Z4o {κ:Nat→Option KI} {s:Z6} (hinj:∀ k k' o o' ki ki',s.obj k=some o→s.obj k'=some o'→κ k=some ki→κ k'=some ki'→ki.b=ki'.b→k=k'):∀ {KB:List Nat},KB.Nodup→(Z4p κ s KB).Nodup
 | [],_=>List.nodup_nil
 | k::r,h=>by
  obtain⟨h1,h2⟩:=List.nodup_cons.1 h;have ih:=Z4o hinj h2;rw[Z4p];split
  ·rename_i o ki e1 e2
   refine List.nodup_cons.2 ⟨fun hm => ?_,ih⟩;obtain⟨k',hk',o',ki',q1,q2,q3⟩:=Z3e.1 hm;exact h1 (hinj k k' o o' ki ki' e1 q1 e2 q2 q3.symm ▸ hk')
  ·exact ih
theorem GWp.open {Γ:Ctx} {c:Code} {Q:Exit→Z6→Gh→Prop} {s:Z6} {bs:List Bun} {Bs:List (List Nat)} (KB:List Nat) (F i x:Nat) (b:Bun) (hb:bs[i]? = some b) (hx:s.get x = .im (.sc b.v)) (hKn:KB.Nodup) (hk:∀ k o,look b.objs k=some o→k∈KB) (hfr:∀ k∈KB,s.fresh k) (hob:∀ k o q,look b.objs k=some o→o.has q=true→q∈KB) (hh:∀ q,b.h.has q=true→q∈KB∧q<F) (hF:s.floor≤F) (h:∀ Γ':Ctx,Γ'.P=Γ.P→Γ'.n=Γ.n→AWp Γ' c (fun e s'=>s'.floor=F∧∃ objs':List (Nat×MObj),(∀ k o,look objs' k=some o→k∈KB∧s'.obj k=some o)∧∀ B',Q e (sansB s' s.floor KB) (bag (bs.set i ⟨b.v,b.h,objs'⟩) (Bs.set i B'))) (Z7d s F x b)):GWp Γ c Q s (bag bs Bs):=by
 rintro a w ⟨κ,I,hr,hg⟩;obtain⟨hl,hnd,hat⟩:=hg.holds;obtain⟨hi,rfl⟩:=List.getElem?_eq_some_iff.1 hb;have hiB:i<Bs.length:=hl ▸ hi;obtain⟨κb,b1,b2,b3,b4⟩:=hat i hi hiB;have hin:∀ q,q∈Bs[i]→q∈(bag bs Bs).B:=fun q hq=>List.mem_flatten.2 ⟨_,List.getElem_mem hiB,hq⟩
 let κ2:Nat→Option KI:=fun k=>if k∈KB then κb k else κ k
 have k2in:∀ k,k∈KB→κ2 k=κb k:=fun k h=>if_pos h
 have k2out:∀ k,k ∉ KB→κ2 k=κ k:=fun k h=>if_neg h
 have hmain:∀ k o,s.obj k=some o→k ∉ KB:=fun k o e hin=>by rw[(hfr k hin).2.2.1] at e;cases e
 have hob2:∀ k o,(Z7d s F x bs[i]).obj k=some o→(look bs[i].objs k=some o∧k∈KB)∨(k ∉ KB∧s.obj k=some o):=fun k o e=>by
  rw[obj_with] at e;cases e1:look bs[i].objs k with
  | some o'=>rw[e1] at e;obtain rfl:=Option.some.inj e;exact .inl ⟨rfl,hk k _ e1⟩
  | none=>rw[e1] at e;exact .inr ⟨hmain k o e,e⟩
 have objs2:∀ k o,(Z7d s F x bs[i]).obj k=some o→OAt w I κ2 k o:=fun k o e=>by
  rcases hob2 k o e with ⟨e1,e2⟩ | ⟨e1,e2⟩
  ·have h0:=b2 k o e1
   unfold OAt at h0 ⊢;rw[k2in k e2];cases e3:κb k with
   | none=>rw[e3] at h0;exact h0
   | some ki=>rw[e3] at h0;exact h0.mono (fun _ h=>h) (fun _ _=>rfl) rfl (fun q hq=>k2in q (hob k o q e1 hq))
  ·have h0:=hr.inv.objs k o e2
   unfold OAt at h0 ⊢;rw[k2out k e1];cases e3:κ k with
   | none=>rw[e3] at h0;exact h0
   | some ki=>rw[e3] at h0;exact h0.mono (fun _ h=>h) (fun _ _=>rfl) rfl (fun q hq=>k2out q (fun hin=>by rw[(hfr q hin).2.1 k o e2] at hq;cases hq))
 have inj2:∀ k k' o o' ki ki',(Z7d s F x bs[i]).obj k=some o→(Z7d s F x bs[i]).obj k'=some o'→κ2 k=some ki→κ2 k'=some ki'→ki.b=ki'.b→k=k':=by
  intro k k' o o' ki ki' e e' f f' hbb;rcases hob2 k o e with ⟨e1,e2⟩ | ⟨e1,e2⟩<;>rcases hob2 k' o' e' with ⟨g1,g2⟩ | ⟨g1,g2⟩
  ·rw[k2in k e2] at f;rw[k2in k' g2] at f';exact b3 k k' o o' ki ki' e1 g1 f f' hbb
  ·rw[k2in k e2] at f;rw[k2out k' g1] at f'
   exact absurd hbb.symm (hg.obj _ (hin _ (b4 k o ki e1 f)) k' o' ki' g2 f')
  ·rw[k2out k e1] at f;rw[k2in k' g2] at f'
   exact absurd hbb (hg.obj _ (hin _ (b4 k' o' ki' g1 f')) k o ki e2 f)
  ·rw[k2out k e1] at f;rw[k2out k' g1] at f';exact hr.inv.inj k k' o o' ki ki' e2 g2 f f' hbb
 have disj2:∀ k o ki,(Z7d s F x bs[i]).obj k=some o→κ2 k=some ki→¬ I ki.b:=by
  intro k o ki e f;rcases hob2 k o e with ⟨e1,e2⟩ | ⟨e1,e2⟩
  ·rw[k2in k e2] at f;exact hg.dis _ (hin _ (b4 k o ki e1 f))
  ·rw[k2out k e1] at f;exact hr.inv.disj k o ki e2 f
 have hdis:∀ q,I q→¬ Z4s κ2 (Z7d s F x bs[i]) q:=fun q hq ⟨k,o,ki,h1,h2,h3⟩=>disj2 k o ki h1 h2 (h3 ▸ hq)
 have glob:Zb2 Γ.P I (Z4s κ2 (Z7d s F x bs[i])) w:=fun g cs e=>by
  obtain⟨h1,h2,h3⟩:=hr.inv.tab e;exact⟨h1,hdis g h1,h2,h3⟩
 let Γ':Ctx := { P:=Γ.P,n:=Γ.n,w0:=w,I0:=I,M0:=Z4s κ2 (Z7d s F x bs[i]),κ0:=κ2,glob:=glob }
 have hslots:∀ y,Rep w I κ2 ((Z7d s F x bs[i]).get y) (a.tmps.getD y undef):=fun y=>by
  show Rep w I κ2 ((look ((x,bs[i].h)::s.slots) y).getD .top) _;rw[Z19];by_cases e:x=y
  ·subst e
   rw[if_pos rfl];have hv:=hr.slots x;rw[hx] at hv;rw[hv.sc_inv];exact b1.mono (fun _ h=>h) (fun _ _=>rfl) (fun q hq=>k2in q (hh q hq).1)
  ·rw[if_neg e]
   exact(hr.slots y).mono (fun _ h=>h) (fun _ _=>rfl) (fun q hq=>k2out q (fun hin=>by
    have:=(hfr q hin).1 y;rw[this] at hq;cases hq))
 have sat:Sat Γ' (Z7d s F x bs[i]) a w:=⟨κ2,I,hr.size,hr.defers,hslots,objs2,inj2,disj2,hr.inv.bound,Z8g.refl _ _,fun _ h=>h,fun q h=>.inl h,fun k o ki h1 h2=>.inl ⟨k,o,ki,h1,h2,rfl⟩,fun k hk=>rfl⟩
 refine Code.wp_mono (fun e a' w' ⟨s',h1,hfl,objs',ho',hq⟩ => ?_) (h Γ' rfl rfl a w sat);obtain⟨κ',I',r'⟩:=h1;have hsz:w.heap.size≤w'.heap.size:=r'.inv.keep.size;have fromM:∀ q,Z4s κ2 (Z7d s F x bs[i]) q→Γ.M0 q∨Γ.w0.heap.size≤q:=fun q ⟨k,o,ki,h1,h2,h3⟩=>by
  rcases hob2 k o h1 with ⟨e1,e2⟩ | ⟨e1,e2⟩
  ·rw[k2in k e2] at h2;exact h3 ▸ hg.new _ (hin _ (b4 k o ki e1 h2))
  ·rw[k2out k e1] at h2;exact h3 ▸ hr.inv.fromO k o ki e2 h2
 have old:∀ q,q<w.heap.size→¬ Z4s κ2 (Z7d s F x bs[i]) q→w'.heap[q]? = w.heap[q]? := fun q hq hn=>r'.inv.keep.block q hq hn
 have fromO':∀ k o ki,s'.obj k=some o→κ' k=some ki→Γ.M0 ki.b∨Γ.w0.heap.size≤ki.b:=fun k o ki h1 h2=>by
  rcases r'.inv.fromO k o ki h1 h2 with h | h
  ·exact fromM _ h
  ·exact .inr (Nat.le_trans hr.inv.keep.size h)
 have others:∀ q,q∈(Bs.set i []).flatten→q<w.heap.size∧¬ Z4s κ2 (Z7d s F x bs[i]) q:=fun q hq=>by
  obtain⟨m1,m2⟩:=Z8z hnd hiB hq;refine⟨hg.size q m1,fun⟨k,o,ki,h1,h2,h3⟩ => ?_⟩;rcases hob2 k o h1 with ⟨e1,e2⟩ | ⟨e1,e2⟩
  ·rw[k2in k e2] at h2;exact m2 (h3 ▸ b4 k o ki e1 h2)
  ·rw[k2out k e1] at h2;exact hg.obj q m1 k o ki e2 h2 h3
 have apart':∀ q,q∈(Bs.set i []).flatten→∀ k o ki,s'.obj k=some o→κ' k=some ki→ki.b≠q:=fun q hq k o ki h1 h2 e=>by
  obtain⟨m1,m2⟩:=others q hq;rcases r'.inv.fromO k o ki h1 h2 with h | h
  ·exact m2 (e ▸ h)
  ·rw[e] at h;exact absurd m1 (Nat.not_lt.2 h)
 let B':List Nat:=Z4p κ' s' KB
 have hB':∀ q,q∈B'→∃ k∈KB,∃ o ki,s'.obj k=some o∧κ' k=some ki∧ki.b=q:=fun q hq=>Z3e.1 hq
 have hsans:∀ k o,(sansB s' s.floor KB).obj k=some o→k ∉ KB∧s'.obj k=some o:=fun k o e=>by
  rw[obj_sans] at e;by_cases hin:k∈KB
  ·rw[if_pos hin] at e;cases e
  ·rw[if_neg hin] at e;exact⟨hin,e⟩
 have mem':∀ q,q∈(Bs.set i B').flatten→q∈(Bs.set i []).flatten∨q∈B':=fun q hq=>by
  have e1:=(Z46 Bs i hiB B').2;have e2:=(Z46 Bs i hiB []).2;rw[e1] at hq;rw[e2];simp only[List.flatten_append,List.flatten_cons,List.nil_append,List.mem_append] at hq ⊢;rcases hq with h | h | h
  ·exact .inl (.inl h)
  ·exact .inr h
  ·exact .inl (.inr h)
 refine⟨sansB s' s.floor KB,bag (bs.set i ⟨bs[i].v,bs[i].h,objs'⟩) (Bs.set i B'),⟨κ',I',⟨r'.size,r'.defers,r'.slots,⟨fun k o e=>r'.inv.objs k o (hsans k o e).2,fun k k' o o' ki ki' e e'=>r'.inv.inj k k' o o' ki ki' (hsans k o e).2 (hsans k' o' e').2,fun k o ki e=>r'.inv.disj k o ki (hsans k o e).2,r'.inv.bound,?_,?_,?_,fun k o ki e f=>fromO' k o ki (hsans k o e).2 f,?_⟩⟩,?_,?_,?_,?_,?_⟩,hq B'⟩
 ·exact hr.inv.keep.trans r'.inv.keep (fun q hq hm=>(fromM q hm).resolve_right (fun h=>absurd hq (Nat.not_lt.2 h)))
 ·exact fun q hq=>r'.inv.ikeep q (hr.inv.ikeep q hq)
 ·intro q hq
  rcases r'.inv.fromI q hq with h | h | h
  ·exact hr.inv.fromI q h
  ·exact .inr (fromM q h)
  ·exact .inr (.inr (Nat.le_trans hr.inv.keep.size h))
 ·intro k hk'
  have hk':k<s.floor:=hk';have hnin:k ∉ KB:=fun hin=>absurd (hfr k hin).2.2.2 (Nat.not_le.2 hk');have:=r'.inv.fix k (by rw[hfl];omega);rw[this];show κ2 k=_;rw[k2out k hnin];exact hr.inv.fix k hk'
 ·refine⟨by simp[hl],flat_put hiB hnd (Z4o            r'.inv.inj hKn) (fun q hq hc => ?_),fun j h1 h2 => ?_⟩
  ·obtain⟨k,_,o,ki,q1,q2,q3⟩:=hB' q hq
   exact apart' q hc k o ki q1 q2 q3
  ·by_cases e:i=j
   ·subst e
    rw[List.getElem_set_self,List.getElem_set_self];refine⟨κ',?_,fun k o e => ?_,fun k k' o o' ki ki' e e'=>r'.inv.inj k k' o o' ki ki' (ho' k o e).2 (ho' k' o' e').2,fun k o ki e f=>Z3e.2 ⟨k,(ho' k o e).1,o,ki,(ho' k o e).2,f,rfl⟩⟩
    ·refine Rep.mono (I:=I) (w:=w) (κ:=κ2) ?_ (fun q hq=>r'.inv.ikeep q hq) (fun q hq=>old q (hr.inv.bound q hq) (hdis q hq)) (fun q hq=>r'.inv.fix q (by rw[hfl];exact(hh q hq).2))
     exact b1.mono (fun _ h=>h) (fun _ _=>rfl) (fun q hq=>k2in q (hh q hq).1)
    ·exact r'.inv.objs k o (ho' k o e).2
   ·rw[List.getElem_set_ne e,List.getElem_set_ne e]
    refine(hat j (by simpa using h1) (by simpa using h2)).mono (fun q hq => ?_) (fun q hq=>r'.inv.ikeep q hq) (fun q hq=>old q (hr.inv.bound q hq) (hdis q hq));have hm:q∈(Bs.set i []).flatten:=List.mem_flatten.2 ⟨(Bs.set i [])[j]'(by simpa using h2),List.getElem_mem _,by rw[List.getElem_set_ne e];exact hq⟩;exact old q (others q hm).1 (others q hm).2
 ·intro q hq
  rcases mem' q hq with h | h
  ·exact Nat.lt_of_lt_of_le (others q h).1 hsz
  ·obtain⟨k,_,o,ki,q1,q2,rfl⟩:=hB' q h
   have h0:=r'.inv.objs k o q1;unfold OAt at h0;rw[q2] at h0;exact h0.lt
 ·intro q hq hI
  rcases mem' q hq with h | h
  ·rcases r'.inv.fromI q hI with g | g | g
   ·exact hg.dis q (Z8z hnd hiB h).1 g
   ·exact(others q h).2 g
   ·exact absurd (others q h).1 (Nat.not_lt.2 g)
  ·obtain⟨k,_,o,ki,q1,q2,rfl⟩:=hB' q h
   exact r'.inv.disj k o ki q1 q2 hI
 ·intro q hq k o ki e f
  obtain⟨n1,e⟩:=hsans k o e;rcases mem' q hq with h | h
  ·exact apart' q h k o ki e f
  ·obtain⟨k',hk',o',ki',q1,q2,rfl⟩:=hB' q h
   exact fun hbb=>n1 (r'.inv.inj k k' o o' ki ki' e q1 f q2 hbb ▸ hk')
 ·intro q hq
  rcases mem' q hq with h | h
  ·exact hg.new q (Z8z hnd hiB h).1
  ·obtain⟨k,_,o,ki,q1,q2,rfl⟩:=hB' q h
   exact fromO' k o ki q1 q2
theorem GWp.newB {Γ:Ctx} {c:Code} {Q:Exit→Z6→Gh→Prop} {s:Z6} {bs:List Bun} {Bs:List (List Nat)} (KB:List Nat) (x:Nat) (h:AVal) (objs:List (Nat×MObj)) (hx:s.get x=h) (hKn:KB.Nodup) (ho:∀ k o,look objs k=some o→k∈KB∧s.obj k=some o) (H:∀ v B',GWp Γ c Q ⟨(x,.im (.sc v))::s.slots,(sansB s s.floor KB).objs,s.floor⟩ (bag (bs++[⟨v,h,objs⟩]) (Bs++[B']))):GWp Γ c Q s (bag bs Bs):=by
 rintro a w ⟨κ,I,hr,hg⟩;obtain⟨hl,hnd,hat⟩:=hg.holds
 let v:Value:=a.tmps.getD x undef
 let B':List Nat:=Z4p κ s KB
 have hB':∀ q,q∈B'→∃ k∈KB,∃ o ki,s.obj k=some o∧κ k=some ki∧ki.b=q:=fun q hq=>Z3e.1 hq
 have hsans:∀ k o,(⟨(x,.im (.sc v))::s.slots,(sansB s s.floor KB).objs,s.floor⟩:Z6).obj k=some o→k ∉ KB∧s.obj k=some o:=fun k o e=>by
  have e:(sansB s s.floor KB).obj k=some o:=e;rw[obj_sans] at e;by_cases hin:k∈KB
  ·rw[if_pos hin] at e;cases e
  ·rw[if_neg hin] at e;exact⟨hin,e⟩
 have hfl:∀ q,q∈(Bs++[B']).flatten↔q∈Bs.flatten∨q∈B':=fun q=>by simp
 refine H v B' a w ⟨κ,I,⟨hr.size,hr.defers,fun y => ?_,fun k o e=>hr.inv.objs k o (hsans k o e).2,fun k k' o o' ki ki' e e'=>hr.inv.inj k k' o o' ki ki' (hsans k o e).2 (hsans k' o' e').2,fun k o ki e=>hr.inv.disj k o ki (hsans k o e).2,hr.inv.bound,hr.inv.keep,hr.inv.ikeep,hr.inv.fromI,fun k o ki e=>hr.inv.fromO k o ki (hsans k o e).2,hr.inv.fix⟩,?_,?_,?_,?_,?_⟩
 ·show Rep w I κ ((look ((x,AVal.im (.sc v))::s.slots) y).getD .top) _
  rw[Z19];by_cases e:x=y
  ·subst e;rw[if_pos rfl];exact .im (.sc _)
  ·rw[if_neg e];exact hr.slots y
 ·refine⟨by simp[hl],?_,fun j h1 h2 => ?_⟩
  ·rw[List.flatten_append]
   refine List.nodup_append.2 ⟨hnd,by simpa using Z4o hr.inv.inj hKn,fun q hq q' hq' e => ?_⟩;obtain⟨k,_,o,ki,q1,q2,q3⟩:=hB' q' (by simpa using hq');exact hg.obj q hq k o ki q1 q2 (q3.trans e.symm)
  ·by_cases hj:j<bs.length
   ·rw[List.getElem_append_left hj,List.getElem_append_left (by omega)]
    exact hat j hj (by omega)
   ·have hj':j=bs.length:=by simp at h1;omega
    subst hj';have e1:(bs++[⟨v,h,objs⟩])[bs.length]=⟨v,h,objs⟩:=by simp
    have e2:(Bs++[B'])[bs.length]=B':=by simp[hl]
    rw[e1,e2];refine⟨κ,?_,fun k o e=>hr.inv.objs k o (ho k o e).2,fun k k' o o' ki ki' e e'=>hr.inv.inj k k' o o' ki ki' (ho k o e).2 (ho k' o' e').2,fun k o ki e f=>Z3e.2 ⟨k,(ho k o e).1,o,ki,(ho k o e).2,f,rfl⟩⟩;have:=hr.slots x;rw[hx] at this;exact this
 ·intro q hq
  rcases(hfl q).1 hq with h | h
  ·exact hg.size q h
  ·obtain⟨k,_,o,ki,q1,q2,rfl⟩:=hB' q h
   have h0:=hr.inv.objs k o q1;unfold OAt at h0;rw[q2] at h0;exact h0.lt
 ·intro q hq
  rcases(hfl q).1 hq with h | h
  ·exact hg.dis q h
  ·obtain⟨k,_,o,ki,q1,q2,rfl⟩:=hB' q h
   exact hr.inv.disj k o ki q1 q2
 ·intro q hq k o ki e f
  obtain⟨n1,e⟩:=hsans k o e;rcases(hfl q).1 hq with h | h
  ·exact hg.obj q h k o ki e f
  ·obtain⟨k',hk',o',ki',q1,q2,rfl⟩:=hB' q h
   exact fun hbb=>n1 (hr.inv.inj k k' o o' ki ki' e q1 f q2 hbb ▸ hk')
 ·intro q hq
  rcases(hfl q).1 hq with h | h
  ·exact hg.new q h
  ·obtain⟨k,_,o,ki,q1,q2,rfl⟩:=hB' q h
   exact hr.inv.fromO k o ki q1 q2
theorem bag_ptr {Γ:Ctx} {s:Z6} {bs:List Bun} {Bs:List (List Nat)} {i k e j:Nat} {b:Bun} (hb:bs[i]? = some b) (hh:b.h = .ptr k e j) (a:Act) (w:World) (h:GSat Γ s (bag bs Bs) a w):∃ ad,b.v = .pointer (some ad):=by
 obtain⟨κ,I,hr,hg⟩:=h;obtain⟨hl,_,hat⟩:=hg.holds;obtain⟨hi,rfl⟩:=List.getElem?_eq_some_iff.1 hb;obtain⟨κb,b1,_⟩:=hat i hi (by omega);rw[hh] at b1;generalize bs[i].v=v at b1;cases b1 with
 | ptr e=>exact⟨_,rfl⟩
theorem AWp.bag0 {Γ:Ctx} {c:Code} {Q:Exit→Z6→Prop} {s:Z6} (h:GWp Γ c (fun e s' _=>Q e s') s (bag [] [])):AWp Γ c Q s:=by
 rintro a w ⟨κ,I,hr⟩;refine Code.wp_mono (fun e a' w' ⟨s',g',⟨κ',I',r',_⟩,hq⟩=>⟨s',⟨κ',I',r'⟩,hq⟩) (h a w ⟨κ,I,hr,⟨⟨rfl,List.nodup_nil,fun i h=>absurd h (Nat.not_lt_zero _)⟩,?_,?_,?_,?_⟩⟩)<;>(intro b hb;cases hb)
theorem run_eql_ptr {P:Program} {t e:TypeId} (ht:P.underlying t=some (.pointer e)) (p:Option Addr) (w:World):(binOp .eql t (.pointer p) (.pointer none)).run P w = .ok (.bool p.isNone) w:=by
 have h:(Op.equal t (.pointer p) (.pointer none)).run P w = .ok p.isNone w:=by
  unfold Op.equal Op.maxDepth;rw[Op.equalIn];cases p<;>simp only[Sem.run_bind,Zx ht,Result.andThen_ok,Sem.run_pure]<;>rfl
 show(do pure (.bool (← Op.equal t (.pointer p) (.pointer none))):Sem Value).run P w=_;rw[Sem.run_bind,h];rfl
def xPNil:Ext where
 f P o s:=match o.op with
  | .binOp .eql t x (.const (.pointer none)) _=>match P.underlying t,s.eval x with
   | some (.pointer _),.im (.sc (.pointer p))=>some ⟨[],[],.im (.sc (.bool p.isNone)),[],[]⟩
   | _,_=>none
  | _=>none
 ok P o s e he hp:=by
  split at he
  ·rename_i t x _ ho
   split at he
   ·rename_i el p ht hx
    obtain rfl:=Option.some.inj he;refine .quiet rfl fun Γ κ I s2 a w hP hrel hn => ?_;have g:=opd hrel hn x (by simp[ho,Op.operands]) rfl;rw[hx] at g;have e:=g.sc_inv;refine⟨.bool p.isNone,?_,.im (.sc _)⟩;have hc:a.eval (.const (.pointer none)) = .pointer none:=rfl;simp only[execOp,ho,e,hc,eqGuard];simp[run_eql_ptr ht]
   ·simp at he
  ·simp at he
theorem Z2q {Γ:Ctx} {s:Z6} {g:Gh} (live keeps:List Nat):GCv Γ s g (Z3g live keeps s) g:=by
 rintro a w ⟨κ,I,hr,hg⟩;have hs:∀ x,(Z3g live keeps s).get x = .top∨(Z3g live keeps s).get x=s.get x:=fun x=>by
  simp only[Z6.get,Z3g];cases e:look (live.map fun i=>(i,(look s.slots i).getD .top)) x with
  | none=>left;rfl
  | some v=>right;rw[Z9s (fun i=>(look s.slots i).getD .top) live x v e];rfl
 have ho:∀ k o,(Z3g live keeps s).obj k=some o→s.obj k=some o:=fun k o hk=>by
  simp only[Z6.obj,Z3g] at hk;cases e:look (keeps.map fun k=>(k,(look s.objs k).getD none)) k with
  | none=>rw[e] at hk;simp at hk
  | some v=>rw[e] at hk;have:=Z9s (fun i=>(look s.objs i).getD none) keeps k v e;subst this;exact hk
 refine⟨κ,I,⟨hr.size,hr.defers,fun x => ?_,hr.inv.eqv ho rfl⟩,hg.holds,hg.size,hg.dis,fun b hb k o ki e=>hg.obj b hb k o ki (ho k o e),hg.new⟩;rcases hs x with e | e<;>rw[e]
 ·exact .top _
 ·exact hr.slots x
section
variable {K B:Type}
abbrev QL (K B:Type):=List ((K×B)×Value)
def qS (q:QL K B):List (K×B):=q.map (·.1)
def qM (q:QL K B):List (K×Value):=q.map fun y=>(y.1.1,y.2)
def qB (h:AVal) (f:B→List (Nat×MObj)) (q:QL K B):List Bun:=q.map fun y=>⟨y.2,h,f y.1.2⟩
theorem q_get [DecidableEq K] (lo:K):∀ q:QL K B,(mget (qS q) lo=none∧mget (qM q) lo=none∧∀ bk v,mput (qS q) lo bk=qS (q++[((lo,bk),v)])∧mput (qM q) lo v=qM (q++[((lo,bk),v)])) ∨
  ∃ i bk v,q[i]? = some ((lo,bk),v)∧mget (qS q) lo=some bk∧mget (qM q) lo=some v∧∀ bk',mput (qS q) lo bk'=qS (q.set i ((lo,bk'),v))
 | []=>.inl ⟨rfl,rfl,fun bk v=>⟨rfl,rfl⟩⟩
 | y::q=>by
  obtain⟨⟨k,b⟩,u⟩:=y;by_cases e:k=lo
  ·subst e
   refine .inr ⟨0,b,u,rfl,?_,?_,fun bk' => ?_⟩
   ·show mget ((k,b)::qS q) k=_;rw[mget,if_pos rfl]
   ·show mget ((k,u)::qM q) k=_;rw[mget,if_pos rfl]
   ·show mput ((k,b)::qS q) k bk'=_;rw[mput,if_pos rfl];rfl
  ·rcases q_get lo q with ⟨h1,h2,h3⟩ | ⟨i,bk,v,h1,h2,h3,h4⟩
   ·refine .inl ⟨?_,?_,fun bk v=>⟨?_,?_⟩⟩
    ·show mget ((k,b)::qS q) lo=_;rw[mget,if_neg e];exact h1
    ·show mget ((k,u)::qM q) lo=_;rw[mget,if_neg e];exact h2
    ·show mput ((k,b)::qS q) lo bk=_;rw[mput,if_neg e,(h3 bk v).1];rfl
    ·show mput ((k,u)::qM q) lo v=_;rw[mput,if_neg e,(h3 bk v).2];rfl
   ·refine .inr ⟨i+1,bk,v,h1,?_,?_,fun bk' => ?_⟩
    ·show mget ((k,b)::qS q) lo=_;rw[mget,if_neg e];exact h2
    ·show mget ((k,u)::qM q) lo=_;rw[mget,if_neg e];exact h3
    ·show mput ((k,b)::qS q) lo bk'=_;rw[mput,if_neg e,h4 bk'];rfl
theorem qM_set {q:QL K B} {i:Nat} {lo:K} {bk bk':B} {v:Value} (h:q[i]? = some ((lo,bk),v)):qM (q.set i ((lo,bk'),v))=qM q:=by
 unfold qM;rw[List.map_set];obtain⟨hi,e⟩:=List.getElem?_eq_some_iff.1 h;apply List.ext_getElem?;intro j;by_cases c:i=j
 ·subst c
  rw[List.getElem?_set_self (by simpa using hi),List.getElem?_map,h];rfl
 ·rw[List.getElem?_set_ne c]
theorem qB_set {h:AVal} {f:B→List (Nat×MObj)} {q:QL K B} {i:Nat} {lo:K} {bk':B} {v:Value}:qB h f (q.set i ((lo,bk'),v))=(qB h f q).set i ⟨v,h,f bk'⟩:=by
 unfold qB;rw[List.map_set]
theorem qB_get {h:AVal} {f:B→List (Nat×MObj)} {q:QL K B} {i:Nat} {lo:K} {bk:B} {v:Value} (e:q[i]? = some ((lo,bk),v)):(qB h f q)[i]? = some ⟨v,h,f bk⟩:=by
 unfold qB;rw[List.getElem?_map,e];rfl
theorem qB_app {h:AVal} {f:B→List (Nat×MObj)} {q:QL K B} {lo:K} {bk:B} {v:Value}:qB h f (q++[((lo,bk),v)])=qB h f q++[⟨v,h,f bk⟩]:=by
 unfold qB;rw[List.map_append];rfl
end
end Go.Pv
namespace Go.Pv
open Go.Instr
abbrev aM {K:Type} (vk:K→Value) (l:List (K×AVal)):MObj:=.amap (l.map fun p=>vk p.1) (l.map (·.2))
theorem amap_at {w:World} {I:Nat→Prop} {κ:Nat→Option KI} {k:Nat} {ks:List Value} {xs:List AVal} (h:OAt w I κ k (.amap ks xs)):∃ ki arr,κ k=some ki∧xs.length=ks.length∧w.heap[ki.b]? = some (.map arr ks.length)∧arr.size=ks.length ∧
  ∀ i (h:i<ks.length),∃ e,arr[i]? = some e∧e.born=i∧e.key=ks[i]∧∀ (h':i<xs.length),Rep w I κ (xs[i]) e.val:=by
 unfold OAt at h;cases e:κ k with
 | none=>rw[e] at h;obtain⟨_,_,h⟩:=h;simp at h
 | some ki=>rw[e] at h;obtain⟨h0,arr,h1,h2,h3⟩:=h;exact⟨ki,arr,rfl,h0,h1,h2,h3⟩
theorem keys_aM {K:Type} {vk:K→Value} {l:List (K×AVal)} {arr:Array MapEntry} (hs:arr.size=l.length) (h:∀ i (h:i<l.length),∃ e,arr[i]? = some e∧e.key=vk (l[i]).1):arr.toList.map (·.key)=(l.map (·.1)).map vk:=by
 apply List.ext_getElem
 ·simp[hs]
 ·intro i h1 h2
  simp only[List.length_map,Array.length_toList] at h1;obtain⟨e,e1,e3⟩:=h i (by omega);rw[Array.getElem?_eq_getElem h1] at e1;obtain rfl:=Option.some.inj e1;simp[e3]
def xPutA {K:Type} [DecidableEq K] (vk:K→Value) (l:List (K×AVal)) (k:K) (v:AVal):Ext where
 f P o s:=match putOp o.op with
  | some (t,x,y,z)=>match P.underlying t,s.eval x with
   | some (.map kt et),.mown m=>match s.obj m with
    | some (.amap ks xs)=>some ⟨[m],[],.top,[(m,some (aM vk (mput l k v)))],[Z5v P kt vk,ks=l.map (fun p=>vk p.1),xs=l.map (·.2),valA (s.eval y)=some (vk k),s.eval z=v]⟩
    | _=>none
   | _,_=>none
  | none=>none
 ok P o s e he hp:=by
  split at he
  ·rename_i t x y z hop
   have hop:=putOp_of hop;split at he
   ·rename_i kt et m ht hx
    split at he
    ·rename_i ks xs hm
     obtain rfl:=Option.some.inj he;obtain⟨hK,rfl,rfl,hy,hz,_⟩:=hp;refine .of fun Γ κ I s2 a w hP hr hn hf => ?_;have g1:=opd hr hn x (by rcases hop with ho | ho<;>simp[ho,Op.operands]) hx;have g2:=Z6p hy (opd hr hn y (by rcases hop with ho | ho<;>simp[ho,Op.operands]) rfl);have hv:=opd hr hn z (by rcases hop with ho | ho<;>simp[ho,Op.operands]) hz;have hm2:=(Z1h hn m (by simp)).trans hm;obtain⟨ki,eκ,ex⟩:=Z61 g1;obtain⟨ki',arr,eκ',h0,h1,h2,h3⟩:=amap_at (hr.inv.objs m _ hm2);rw[eκ] at eκ';obtain rfl:=Option.some.inj eκ';simp only[List.length_map] at h1 h2 h3;have h3':∀ i (h:i<l.length),∃ e,arr[i]? = some e∧e.born=i∧e.key=vk (l[i]).1∧Rep w I κ (l[i]).2 e.val:=fun i h=>by
      obtain⟨e,a1,a2,a3,a4⟩:=h3 i h;exact⟨e,a1,a2,by rw[a3];simp,by have:=a4 h;simpa using this⟩
     have hks:=keys_aM h2 (fun i hi=>let ⟨e,a1,a2,a3,_⟩:=h3' i hi;⟨e,a1,a3⟩);obtain⟨r1,r2⟩:=run_mput (v:=a.eval z) (k:=k) ht hK h1 hks;have hb:ki.b<w.heap.size:=(Array.getElem?_eq_some_iff.1 h1).1;have hne:∀ ob b,I b→(World.setBlock w ki.b ob).heap[b]? = w.heap[b]? := fun ob b hb'=>by
      rw[Z13 _ _ _ _ hb,if_neg];rintro rfl;exact hr.inv.disj m _ ki hm2 eκ hb'
     have fin:∀ ob,(execOp a.eval o).run P w = .ok .skip (World.setBlock w ki.b ob)→ORep (World.setBlock w ki.b ob) I κ ki (aM vk (mput l k v)) →
       ∃ v' nx w' κ' I',Gives v' nx∧(execOp a.eval o).run P w = .ok nx w'∧Inv Γ κ' I' (s2.objput [(m,some (aM vk (mput l k v)))]) w'∧(∀ b,I b→I' b)∧(∀ b,I b→w'.heap[b]? = w.heap[b]?)∧(∀ x k,(s2.get x).has k=true→κ' k=κ k)∧Rep w' I' κ' .top v':=by
      intro ob hrun hO;obtain⟨f1,f2⟩:=hr.inv.update hm2 eκ hO;exact⟨_,_,_,κ,I,.inr ⟨rfl,rfl⟩,hrun,f1,fun _ h=>h,f2,fun _ _ _=>rfl,.top _⟩
     rcases Zan k l arr.toList 0 (by simp[h2]) with ⟨q1,q2,q3⟩ | ⟨i,e,p,q1,q2,q3,q4,q5,q6⟩
     ·refine fin (.map (arr.push ⟨vk k,a.eval z,l.length⟩) (l.length+1)) (by rcases hop with ho | ho<;>simp only[execOp,ho,ex,g2,Sem.run_bind,r1 q1,Result.andThen_ok,Sem.run_pure]) ?_
      rw[q3];refine⟨by simp,arr.push ⟨vk k,a.eval z,l.length⟩,by rw[Z13 _ _ _ _ hb,if_pos rfl];simp,by simp[h2],fun i hi => ?_⟩;simp only[List.length_map,List.length_append,List.length_cons,List.length_nil] at hi;by_cases c:i<l.length
      ·obtain⟨e,a1,a2,a3,a4⟩:=h3' i c
       refine⟨e,by rw[Array.getElem?_push,if_neg (by omega),a1],a2,?_,fun h' => ?_⟩
       ·rw[a3];simp[List.getElem_append,c]
       ·have:((l++[(k,v)]).map (·.2))[i]'h'=(l[i]).2:=by simp[List.getElem_append,c]
        rw[this];exact a4.mono (fun _ h=>h) (hne _) (fun _ _=>rfl)
      ·have hi':i=l.length:=by omega
       refine⟨⟨vk k,a.eval z,l.length⟩,by rw[Array.getElem?_push,if_pos (by omega)],by simp[hi'],by simp[hi'],fun h' => ?_⟩;have:((l++[(k,v)]).map (·.2))[i]'h'=v:=by simp[hi']
       rw[this];exact hv.mono (fun _ h=>h) (hne _) (fun _ _=>rfl)
     ·have q1':arr[i]? = some e:=by simpa using q1
      have hil:i<l.length:=(List.getElem?_eq_some_iff.1 q2).1;obtain⟨e',a1,a2,a3,a4⟩:=h3' i hil;rw[q1'] at a1;obtain rfl:=Option.some.inj a1;have hkey:e.key=vk k:=by
       rw[a3];have:=(List.getElem?_eq_some_iff.1 q2).2;simp[this,q3]
      have hrun:=r2 i e.val e (by rw[q4];simp) q1' hkey;refine fin (.map (arr.modify i fun e => { e with key:=vk k,val:=a.eval z }) l.length) (by rcases hop with ho | ho<;>simp only[execOp,ho,ex,g2,Sem.run_bind,hrun,Result.andThen_ok,Sem.run_pure]) ?_;rw[q6];refine⟨by simp,arr.modify i fun e => { e with key:=vk k,val:=a.eval z },by rw[Z13 _ _ _ _ hb,if_pos rfl];simp,by simp[h2],fun j hj => ?_⟩;simp only[List.length_map,List.length_set] at hj;obtain⟨e2,b1,b2,b3,b4⟩:=h3' j hj;by_cases c:i=j
      ·subst c
       refine⟨{ e with key:=vk k,val:=a.eval z },by simp[Array.getElem?_modify,q1'],a2,by simp,fun h' => ?_⟩;have:((l.set i (k,v)).map (·.2))[i]'h'=v:=by simp
       rw[this];exact hv.mono (fun _ h=>h) (hne _) (fun _ _=>rfl)
      ·refine⟨e2,by simp[Array.getElem?_modify,c,b1],b2,?_,fun h' => ?_⟩
       ·rw[b3];simp[List.getElem_set,c]
       ·have:((l.set i (k,v)).map (·.2))[j]'h'=(l[j]).2:=by simp[List.getElem_set,c]
        rw[this];exact b4.mono (fun _ h=>h) (hne _) (fun _ _=>rfl)
    ·simp at he
   ·simp at he
  ·simp at he
def xLookA {K:Type} [DecidableEq K] (vk:K→Value) (l:List (K×AVal)) (k:K) (r:AVal):Ext where
 f P o s:=match o.op with
  | .lookup t x y false=>match P.underlying t,s.eval x with
   | some (.map kt et),.mown m=>match s.obj m,Z7p   P et with
    | some (.amap ks xs),some z=>some ⟨[m],[],r,[],[Z5v P kt vk,ks=l.map (fun p=>vk p.1),xs=l.map (·.2),valA (s.eval y)=some (vk k),(mget l k).getD z=r]⟩
    | _,_=>none
   | _,_=>none
  | _=>none
 ok P o s e he hp:=by
  split at he
  ·rename_i t x y ho
   split at he
   ·rename_i kt et m ht hx
    split at he
    ·rename_i ks xs z hm hz
     obtain rfl:=Option.some.inj he;obtain⟨hK,rfl,rfl,hy,hr0,_⟩:=hp;unfold Z7p at hz;cases hi:P.info? et with
     | none=>rw[hi] at hz;simp at hz
     | some i =>
      cases hzz:i.zero with
      | none=>rw[hi] at hz;simp[hzz] at hz
      | some zv =>
       rw[hi] at hz;simp[hzz] at hz;refine .quiet rfl fun Γ κ I s2 a w hP hr hn => ?_;have g1:=opd hr hn x (by simp[ho,Op.operands]) hx;have g2:=Z6p hy (opd hr hn y (by simp[ho,Op.operands]) rfl);have hm2:=(Z1h hn m (by simp)).trans hm;obtain⟨ki,eκ,ex⟩:=Z61 g1;obtain⟨ki',arr,eκ',h0,h1,h2,h3⟩:=amap_at (hr.inv.objs m _ hm2);rw[eκ] at eκ';obtain rfl:=Option.some.inj eκ';simp only[List.length_map] at h1 h2 h3;have h3':∀ i (h:i<l.length),∃ e,arr[i]? = some e∧e.born=i∧e.key=vk (l[i]).1∧Rep w I κ (l[i]).2 e.val:=fun i h=>by
        obtain⟨e,a1,a2,a3,a4⟩:=h3 i h;exact⟨e,a1,a2,by rw[a3];simp,by have:=a4 h;simpa using this⟩
       have hks:=keys_aM h2 (fun i hi=>let ⟨e,a1,a2,a3,_⟩:=h3' i hi;⟨e,a1,a3⟩);have hz0:(zeroValue et).run P w = .ok zv w:=by simp[zeroValue,Z1l hi,hzz]
       have hrun:=Za6 (k:=k) (c:=false) ht hK h1 hks hz0;have hrep:Rep w I κ r (((hit k (l.map (·.1)) arr.toList 0).map (·.2)).getD zv):=by
        rcases Zan k l arr.toList 0 (by simp[h2]) with ⟨q1,q2,q3⟩ | ⟨i,e,p,q1,q2,q3,q4,q5,q6⟩
        ·rw[q1]
         rw[q2] at hr0;have:=Z4k w I κ zv;rw[hz] at this;rw[← hr0];exact this
        ·rw[q4]
         rw[q5] at hr0;have q1':arr[i]? = some e:=by simpa using q1
         have hil:i<l.length:=(List.getElem?_eq_some_iff.1 q2).1;obtain⟨e',a1,a2,a3,a4⟩:=h3' i hil;rw[q1'] at a1;obtain rfl:=Option.some.inj a1;have:=(List.getElem?_eq_some_iff.1 q2).2;rw[this] at a4;rw[← hr0];exact a4
       exact⟨_,by simp[execOp,ho,ex,g2,hrun],hrep⟩
    ·simp at he
   ·simp at he
  ·simp at he
end Go.Pv
