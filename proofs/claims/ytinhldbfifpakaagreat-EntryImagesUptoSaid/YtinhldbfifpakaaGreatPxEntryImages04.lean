import Derived.Lib.ConvBytes
import Derived.Test.YtinhldbfifpakaaGreatPxEntryImages03
set_option linter.unusedVariables false
set_option linter.unusedSimpArgs false
open Go.RowKit
namespace Go.Pv
theorem Fn.law {P:Program} {f:FuncId} {args:List AVal} {vs:List Value} {w:World} (h:Fn P f args [] 0 (fun x o=>x=bV true∧o=[]))
  (hl:vs.length=args.length) (hreps:∀ j (h:j<args.length) (h':j<vs.length),Rep w (fun b=>b<w.heap.size) (fun _=>none) (args[j]) (vs[j])) :
  Calls P f vs.toArray w fun e w'=>e = .returned (.bool true)∧Below w.heap.size w w':=by
 have hinv:Inv (Zah P 0 (fun _=>none) (fun b=>b<w.heap.size) ⟨[],[],0⟩ w) (fun _=>none) (fun b=>b<w.heap.size) ⟨[],[],0⟩ w:=by
  refine⟨?_,?_,?_,fun b h=>h,Zf6.refl _ _,fun _ h=>h,fun b h=>.inl h,?_,fun _ _=>rfl⟩
  ·intro k o h;simp[Z5.obj,look] at h
  ·intro k k' o o' ki ki' h;simp[Z5.obj,look] at h
  ·intro k o ki h;simp[Z5.obj,look] at h
  ·intro k o ki h;simp[Z5.obj,look] at h
 refine(h (fun _=>none) (fun b=>b<w.heap.size) w vs hl hreps hinv).mono ?_;rintro e w' ⟨v,r,o,κ',I',rfl,⟨rfl,rfl⟩,hr,hi⟩;refine⟨by rw[hr.sc_inv],?_⟩;have hM:∀ b,b<w.heap.size→w'.heap[b]? = w.heap[b]? := fun b hb=>hi.keep.block b hb (fun hm=>by
  obtain⟨k,o,ki,h1,_⟩:=hm;simp[Z5.obj,look] at h1)
 exact⟨hi.keep.os,hi.keep.tape,hi.keep.output,hi.keep.size,hM⟩
theorem chkT {p:Prop} [Decidable p] (h:p):chk p=some ():=by simp[chk,h]
theorem sb {α β:Type} (a:α) (f:α→Option β):(some a>>=f)=f a:=rfl
theorem chkB {p:Prop} [Decidable p] {α:Type} {f:Unit→Option α} (h:p):(chk p>>=f)=f ():=by rw[chkT h];rfl
theorem Zc {n:Int} (h0 : -9223372036854775808≤n) (h1:n<9223372036854775808):IntKind.i64.wrap n=n:=by
 simp only[IntKind.wrap,IntKind.signed,IntKind.bits];simp;omega
abbrev L (s:ByteArray):List UInt8:=s.data.toList
theorem Za8 (s:ByteArray):s.toList=L s:=ByteArray.toList_eq ..
theorem Z6a (s:ByteArray):(L s).length=s.size:=by simp[L]
theorem bt_L {s:ByteArray} {i:Nat} {c:UInt8} (h:(L s)[i]? = some c):bt s (i:Int)=(c.toNat:Int):=by
 have:s.data[i]? = some c:=by rw[← h];simp[L]
 simp[bt,this]
theorem L_append (a b:ByteArray):L (a++b)=L a++L b:=by simp[L,ByteArray.data_append]
theorem ext_L {a b:ByteArray} (h:L a=L b):a=b:=by
 obtain⟨⟨a⟩⟩:=a;obtain⟨⟨b⟩⟩:=b;simp[L] at h;rw[h]
theorem Zc4 (s:ByteArray) (i j:Nat):L (s.extract i j)=((L s).drop i).take (j-i):=by
 simp only[L,ByteArray.data_extract,Array.toList_extract,List.extract_eq_take_drop]
structure Zal (w:World) (I:Nat→Prop) (κ:Nat→Option KI) (sz:Nat) (gs:List (List AVal)) (vs:List Value):Prop where
 len:vs.length=gs.length*sz
 el:∀ i (h:i<gs.length),(gs[i]).length=sz
 at_:∀ i (h:i<gs.length) j (h':j<(gs[i]).length),∃ v,vs[i*sz+j]? = some v∧Rep w I κ ((gs[i])[j]) v
theorem Zal.nil (w:World) (I:Nat→Prop) (κ:Nat→Option KI) (sz:Nat):Zal w I κ sz [] []:=⟨by simp,fun i h=>absurd h (Nat.not_lt_zero _),fun i h=>absurd h (Nat.not_lt_zero _)⟩
theorem Zal.append {w:World} {I:Nat→Prop} {κ:Nat→Option KI} {sz:Nat} {es fs:List (List AVal)} {us vs:List Value} (h:Zal w I κ sz es us) (h':Zal w I κ sz fs vs):Zal w I κ sz (es++fs) (us++vs):=by
 refine⟨by simp[h.len,h'.len,Nat.add_mul],fun i hi => ?_,fun i hi j hj => ?_⟩
 ·by_cases hlt:i<es.length
  ·rw[List.getElem_append_left hlt];exact h.el i hlt
  ·rw[List.getElem_append_right (by omega)];exact h'.el _ _
 ·by_cases hlt:i<es.length
  ·simp only[List.getElem_append_left hlt] at hj ⊢
   obtain⟨v,e,r⟩:=h.at_ i hlt j hj;have hjs:j<sz:=by rw[← h.el i hlt];exact hj
   exact⟨v,by rw[List.getElem?_append_left (by rw[h.len];exact Z8z hlt hjs)];exact e,r⟩
  ·simp only[List.getElem_append_right (Nat.le_of_not_lt hlt)] at hj ⊢
   simp only[List.length_append] at hi;obtain⟨v,e,r⟩:=h'.at_ (i-es.length) (by omega) j hj;refine⟨v,?_,r⟩;rw[List.getElem?_append_right (by rw[h.len];have:=Nat.mul_le_mul_right sz (Nat.le_of_not_lt hlt);omega),h.len];rw[show i*sz+j-es.length*sz=(i-es.length)*sz+j from by rw[Nat.sub_mul];have:=Nat.mul_le_mul_right sz (Nat.le_of_not_lt hlt);omega];exact e
theorem Zal.mono {w w':World} {I I':Nat→Prop} {κ κ':Nat→Option KI} {sz:Nat} {gs:List (List AVal)} {vs:List Value} (h:Zal w I κ sz gs vs) (hI:∀ b,I b→I' b) (hw:∀ b,I b→w'.heap[b]? = w.heap[b]?)
  (hk:∀ k,Z90 k gs=true→κ' k=κ k):Zal w' I' κ' sz gs vs :=
 ⟨h.len,h.el,fun i hi j hj=>let ⟨v,e,r⟩:=h.at_ i hi j hj;⟨v,e,r.mono hI hw (fun k hkk=>hk k (by
  cases e:Z90 k gs with
  | true=>rfl
  | false=>rw[Z7f (Zei e i hi) j hj] at hkk;cases hkk))⟩⟩
theorem arow_flat {w:World} {I:Nat→Prop} {κ:Nat→Option KI} {ki:KI} {sz el:Nat} {gs:List (List AVal)} (h:ARow w I κ ki sz el gs) :
  ∃ arr:Array Value,w.heap[ki.b]? = some (.cells arr el (0,0))∧arr.size=ki.cap*sz∧ki.len=gs.length∧ki.sz=sz∧gs.length≤ki.cap∧Zal w I κ sz gs (arr.toList.take (gs.length*sz)):=by
 obtain⟨h1,h2,h3,arr,h4,h5,h6⟩:=h;have hle:gs.length*sz≤arr.size:=by rw[h5];exact Nat.mul_le_mul_right _ h3
 refine⟨arr,h4,h5,h2,h1,h3,by simp;omega,fun i hi=>(h6 i hi).1,fun i hi j hj => ?_⟩;obtain⟨v,e,r⟩:=(h6 i hi).2 j hj;have hjs:j<sz:=by rw[← (h6 i hi).1];exact hj
 refine⟨v,?_,r⟩;rw[List.getElem?_take,if_pos (Z8z hi hjs)];simpa using e
theorem arow_of {w:World} {I:Nat→Prop} {κ:Nat→Option KI} {ki:KI} {sz el:Nat} {gs:List (List AVal)} {vs rest:List Value} (hb:w.heap[ki.b]? = some (.cells (vs++rest).toArray el (0,0)))
  (h:Zal w I κ sz gs vs) (hsz:ki.sz=sz) (hlen:ki.len=gs.length) (hcap:gs.length≤ki.cap) (hall:(vs++rest).length=ki.cap*sz):ARow w I κ ki sz el gs:=by
 refine⟨hsz,hlen,hcap,(vs++rest).toArray,hb,by simpa using hall,fun i hi=>⟨h.el i hi,fun j hj => ?_⟩⟩;obtain⟨v,e,r⟩:=h.at_ i hi j hj;have hjs:j<sz:=by rw[← h.el i hi];exact hj
 refine⟨v,?_,r⟩;simp only[List.getElem?_toArray];rw[List.getElem?_append_left (by rw[h.len];exact Z8z hi hjs)];exact e
theorem arow_row {w:World} {I:Nat→Prop} {κ:Nat→Option KI} {ki:KI} {sz el:Nat} {es:List (List Im)} (h:ORep w I κ ki (.row sz el es)):ARow w I κ ki sz el (imL es):=by
 obtain⟨h1,h2,h3,arr,h4,h5,h6⟩:=h;refine⟨h1,by rw[Z3s];exact h2,by rw[Z3s];exact h3,arr,h4,h5,fun i hi => ?_⟩;rw[Z3s] at hi;obtain⟨g1,g2⟩:=h6 i hi;simp only[imL_get,List.length_map];refine⟨g1,fun j hj => ?_⟩;obtain⟨v,e,r⟩:=g2 j hj;simp only[List.getElem_map];exact⟨v,e,.im r⟩
def Zbp:List (List AVal)→Bool
 | []=>true
 | g::r=>Z3i g&&Zbp r
theorem Zd3:∀ {l:List (List AVal)},Zbp l=true→∀ j (h:j<l.length),Z3i (l[j])=true
 | [],_,j,h=>by simp at h
 | x::r,he,j,h=>by
  simp only[Zbp,Bool.and_eq_true] at he;cases j with
  | zero=>exact he.1
  | succ j=>exact Zd3 he.2 j (by simpa using h)
theorem flatA_leaf {w:World} {I:Nat→Prop} {κ:Nat→Option KI} {sz:Nat} {gs:List (List AVal)} {vs:List Value} (h:Zal w I κ sz gs vs) (hl:Zbp gs=true):∀ v∈vs,Zde v=true:=by
 intro v hv;obtain⟨m,hm,rfl⟩:=List.mem_iff_getElem.1 hv;have hlen:=h.len;have hsz0:0<sz:=by
  rcases Nat.eq_zero_or_pos sz with h0 | h0
  ·rw[h0,Nat.mul_zero] at hlen;omega
  ·exact h0
 have hi:m / sz<gs.length:=by rw[Nat.div_lt_iff_lt_mul hsz0];omega
 have hj:m % sz<(gs[m / sz]).length:=by rw[h.el];exact Nat.mod_lt _ hsz0
 obtain⟨v,e,r⟩:=h.at_ _ hi _ hj;rw[show m / sz*sz+m % sz=m from by rw[Nat.mul_comm];exact Nat.div_add_mod m sz,List.getElem?_eq_getElem hm] at e;rw[Option.some.inj e];exact Zdo r (Zad (Zd3 hl _ hi) _ hj)
theorem Inv.drew {Γ:Ctx} {κ:Nat→Option KI} {I:Nat→Prop} {s:Z5} {w:World} (h:Inv Γ κ I s w):Inv Γ κ I s w.drew:=by
 refine⟨fun k o hk => ?_,h.inj,h.disj,h.bound,⟨h.keep.os,h.keep.tape,h.keep.output,h.keep.size,h.keep.block⟩,h.ikeep,h.fromI,h.fromO,h.fix⟩;have:=h.objs k o hk;unfold OAt at this ⊢;split
 ·rename_i e';rw[e'] at this;exact this
 ·rename_i ki' e';rw[e'] at this;exact this.mono (fun _ h=>h) (fun _ _=>rfl) rfl (fun _ _=>rfl)
theorem appendA_core {P:Program} {Γ:Ctx} {κ:Nat→Option KI} {I:Nat→Prop} {s:Z5} {w:World} {st e:TypeId} {ts:Array TypeId} {sz by_:Nat} {old new:List (List AVal)} {sv xv:Value} {news:List Value} {k2:Nat} {kold:List Nat} {ty:TypeId} {o':MObj}
  (hinv:Inv Γ κ I s w) (hf:s.fresh k2) (hts:ts[0]? = some st) (hts2:Zbm P ts=true) (hel:P.underlying st=some (.slice e)) (hby:Z8k P e=some (by_,sz)) (hb0:0<by_)
  (hold:(∃ base,sv = .slice base 0 0∧old=[])∨∃ k o ki,kold=[k]∧s.obj k=some o∧κ k=some ki∧ARow w I κ ki sz e old∧sv = .slice (some ⟨ki.b,0,none⟩) ki.len ki.cap)
  (hk1:Z90 k2 old=false) (hk3:Z90 k2 new=false) (hne:new≠[])
  (hxlen:∀ w2:World,w2.heap=w.heap→(Builtin.lenOf xv).run P w2 = .ok new.length w2) (hxcells:∀ w2:World,w2.heap=w.heap→(Builtin.firstCells sz new.length xv).run P w2 = .ok news.toArray w2)
  (hfl:Zal w I κ sz new news) (hleaf:∀ v∈news,Zde v=true) (hroom:(old.length+new.length)*by_≤140737488355328)
  (ho':∀ w κ ki,ARow w I κ ki sz e (old++new)→ORep w I κ ki o') :
  ∃ v w' κ',(Builtin.append_ ts ty #[sv,xv]).run P w = .ok v w'∧Inv Γ κ' I (s.objput ((k2,some o')::kold.map (·,none))) w'∧(∀ b,I b→w'.heap[b]? = w.heap[b]?) ∧
   (∀ x k,(s.get x).has k=true→κ' k=κ k)∧Rep w' I κ' (.own k2) v:=by
 have hk0:∀ p∈kold.map (fun k=>(k,(none:Option MObj))),p.2=none:=by
  intro p hp;obtain⟨k,_,rfl⟩:=List.mem_map.1 hp;rfl
 have hinvk:=hinv.kill _ hk0;have hfk:=Zcm hf hk0;have hpos:0<new.length:=List.length_pos_iff.2 hne;have hset:∀ (gs:List (List AVal)) (x:Option KI),Z90 k2 gs=false→∀ k,Z90 k gs=true→setK κ k2 x k=κ k:=fun gs x h k hk=>Zay _ _ _ (by rintro rfl;rw[h] at hk;cases hk)
 have grown:∀ (base:Option Addr) (n c:Nat) (olds:List Value),sv = .slice base n c→n=old.length→c<n+new.length→(∀ w2:World,w2.heap=w.heap→(Builtin.firstCells sz n (.slice base n c)).run P w2 = .ok olds.toArray w2) →
   Zal w I κ sz old olds→∃ v w' κ',(Builtin.append_ ts ty #[sv,xv]).run P w = .ok v w'∧Inv Γ κ' I (s.objput ((k2,some o')::kold.map (·,none))) w'∧(∀ b,I b→w'.heap[b]? = w.heap[b]?) ∧
   (∀ x k,(s.get x).has k=true→κ' k=κ k)∧Rep w' I κ' (.own k2) v:=by
  intro base n c olds hsv hn hgrow ho hfo;subst hn;obtain⟨cap,rest,hcap,hrest,hrun⟩:=Z9p (ty:=ty) hts hts2 hel hby hb0 (hxlen w rfl) (hxcells w.drew rfl) (ho w.drew rfl) hgrow hroom
  let ki:KI:=⟨w.heap.size,cap,sz,old.length+new.length⟩
  have hdrew:=hinvk.drew;have hfl2:Zal (World.alloc' w.drew (.cells (olds++news++rest).toArray e)) I (setK κ k2 (some ki)) sz (old++new) (olds++news) :=
   (hfo.append hfl).mono (fun _ h=>h) (fun b hb=>Z6f _ _ _ (hdrew.bound b hb)) (hset _ _ (by rw[Z8h,hk1,hk3];rfl))
  have hO:ORep (World.alloc' w.drew (.cells (olds++news++rest).toArray e)) I (setK κ k2 (some ki)) ki o' :=
   ho' _ _ _ (arow_of (Z89 w.drew _) hfl2 rfl (by simp[ki]) (by simpa[ki] using hcap) (by
    rw[List.length_append,hfl2.len,hrest,← Nat.add_mul];simp only[ki,List.length_append];congr 1;omega))
  obtain⟨g1,g2,g3⟩:=hdrew.alloc hfk (ki:=ki) rfl hO;refine⟨_,_,setK κ k2 (some ki),by rw[hsv];exact hrun,g1,g2,fun x k hx=>g3 x k hx,?_⟩;exact Rep.own (k:=k2) (ki:=ki) (Z2v ..)
 rcases hold with ⟨base,rfl,rfl⟩ | ⟨k,o,ki,rfl,hobj,eκ,hrow,rfl⟩
 ·exact grown base 0 0 [] rfl rfl (by omega) (fun w2 _=>by cases base<;>simp[Builtin.firstCells,loadCells,loadCellsFrom]) (.nil ..)
 ·obtain⟨arr,h1,h2,h3,h4,h5,hfo⟩:=arow_flat hrow
  have hle:old.length*sz≤arr.size:=by rw[h2];exact Nat.mul_le_mul_right _ h5
  by_cases hfit:old.length+new.length≤ki.cap
  ·let ki':KI:=⟨ki.b,ki.cap,sz,old.length+new.length⟩
   have hsz2:old.length*sz+news.length≤arr.size:=by rw[h2,hfl.len,← Nat.add_mul];exact Nat.mul_le_mul_right _ hfit
   have hst:=Z81 (P:=P) news w arr (old.length*sz) h1 hsz2 hleaf;have hbl:ki.b<w.heap.size:=(Array.getElem?_eq_some_iff.1 h1).1;have hneb:∀ b,I b→(World.setBlock w ki.b (.cells (Z3l arr (old.length*sz) news) e (0,0))).heap[b]? = w.heap[b]? := fun b hb'=>by
    rw[Z30 _ _ _ _ hbl,if_neg];rintro rfl;exact hinv.disj k _ ki hobj eκ hb'
   have hflall:=(hfo.append hfl).mono (I':=I) (κ':=setK κ k2 (some ki')) (fun _ h=>h) hneb (hset _ _ (by rw[Z8h,hk1,hk3];rfl));have hO':ORep (World.setBlock w ki.b (.cells (Z3l arr (old.length*sz) news) e (0,0))) I (setK κ k2 (some ki')) ki' o':=by
    refine ho' _ _ _ ⟨rfl,by simp[ki'],by simpa[ki'] using hfit,Z3l arr (old.length*sz) news,by rw[Z30 _ _ _ _ hbl,if_pos rfl],by rw[Z5i];exact h2,fun i hi=>⟨hflall.el i hi,fun j hj => ?_⟩⟩;obtain⟨v,e',r⟩:=hflall.at_ i hi j hj;have hjs:j<sz:=by rw[← hflall.el i hi];exact hj
    refine⟨v,?_,r⟩;rw[Z4t _ _ _ _ hsz2];have hlt:=Z8z hi hjs;rw[List.length_append,Nat.add_mul] at hlt;by_cases hin:old.length*sz≤i*sz+j
    ·rw[if_pos ⟨hin,by rw[hfl.len];exact hlt⟩]
     rw[List.getElem?_append_right (by simp;omega)] at e';rw[← e'];congr 1;simp;omega
    ·rw[if_neg (by omega)]
     rw[List.getElem?_append_left (by simp;omega),List.getElem?_take,if_pos (by omega)] at e';simpa using e'
   obtain⟨g1,g2,g3⟩:=hinv.move hobj eκ hf (ki':=ki') rfl hO';refine⟨.slice (some ⟨ki.b,0,none⟩) (ki.len+new.length) ki.cap,_,setK κ k2 (some ki'),?_,g1,g2,g3,?_⟩
   ·exact Z7d hts hts2 hel hby (hxlen w rfl) (hxcells w rfl) (by omega) (by simp only[Zbh,Z6z,Nat.zero_add,h3];exact hst)
   ·have:=Rep.own (w:=World.setBlock w ki.b (.cells (Z3l     arr (old.length*sz) news) e (0,0))) (I:=I) (κ:=setK κ k2 (some ki')) (k:=k2) (ki:=ki') (Z2v       ..)
    rw[h3];exact this
  ·refine grown (some ⟨ki.b,0,none⟩) ki.len ki.cap (arr.toList.take (old.length*sz)) rfl h3 (by omega) (fun w2 hw2 => ?_) hfo
   simp only[Builtin.firstCells];rw[Z60 (u:=fun m=>arr[m]?.getD undef) (fun m hm=>by
    have hm2:m<arr.size:=by rw[h3] at hm;omega
    have:w2.cell? ⟨ki.b,0+m,none⟩=w.cell? ⟨ki.b,0+m,none⟩:=by unfold World.cell?;rw[hw2]
    rw[this,Z8n h1,Nat.zero_add];simp[hm2])]
   congr 2;apply List.ext_getElem?;intro m;rw[List.getElem?_map,List.getElem?_take,h3];by_cases hm:m<old.length*sz
   ·rw[List.getElem?_range hm,if_pos hm]
    have:m<arr.size:=by omega
    simp[this]
   ·rw[if_neg hm,List.getElem?_eq_none (by rw[List.length_range];omega)];rfl
def rowA:MObj→Option (Nat×Nat×List (List Im)×List (List AVal))
 | .row sz el es=>some (sz,el,es,[])
 | .arow sz el es fs=>some (sz,el,es,fs)
 | _=>none
theorem rowA_ok {w:World} {I:Nat→Prop} {κ:Nat→Option KI} {ki:KI} {o:MObj} {sz el:Nat} {es:List (List Im)} {fs:List (List AVal)} (h:rowA o=some (sz,el,es,fs)) (ho:ORep w I κ ki o):ARow w I κ ki sz el (imL es++fs):=by
 unfold rowA at h;split at h
 ·simp at h;obtain⟨rfl,rfl,rfl,rfl⟩:=h;rw[List.append_nil];exact arow_row ho
 ·simp at h;obtain⟨rfl,rfl,rfl,rfl⟩:=h;exact ho
 ·simp at h
theorem rowA_none {w:World} {I:Nat→Prop} {κ:Nat→Option KI} {k:Nat} {o:MObj} {sz el:Nat} {es:List (List Im)} {fs:List (List AVal)} (h:rowA o=some (sz,el,es,fs)) (ho:OAt w I κ k o) (e:κ k=none):es=[]∧fs=[]:=by
 simp only[OAt,e] at ho;obtain⟨_,_,rfl⟩:=ho;simp[rowA] at h;exact⟨h.2.2.1,h.2.2.2⟩
theorem rowA_has {k:Nat} {o:MObj} {sz el:Nat} {es:List (List Im)} {fs:List (List AVal)} (h:rowA o=some (sz,el,es,fs)) (ho:o.has k=false):Z90 k (imL es++fs)=false:=by
 rw[Z8h,imL_has];unfold rowA at h;split at h
 ·simp at h;obtain⟨rfl,rfl,rfl,rfl⟩:=h;rfl
 ·simp at h;obtain⟨rfl,rfl,rfl,rfl⟩:=h;exact ho
 ·simp at h
theorem rowA_at {w:World} {I:Nat→Prop} {κ:Nat→Option KI} {k:Nat} {o:MObj} {sz el:Nat} {es:List (List Im)} {fs:List (List AVal)} {v:Value} (h:rowA o=some (sz,el,es,fs)) (ho:OAt w I κ k o) (hv:Rep w I κ (.own k) v) :
  (∃ base,v = .slice base 0 0∧es=[]∧fs=[])∨∃ ki,κ k=some ki∧ARow w I κ ki sz el (imL es++fs)∧v = .slice (some ⟨ki.b,0,none⟩) ki.len ki.cap:=by
 cases hv with
 | own0 base e=>obtain⟨h1,h2⟩:=rowA_none h ho e;exact .inl ⟨base,rfl,h1,h2⟩
 | @own _ ki e=>simp only[OAt,e] at ho;exact .inr ⟨ki,e,rowA_ok h ho,rfl⟩
theorem arow_cells {P:Program} {w:World} {I:Nat→Prop} {κ:Nat→Option KI} {ki:KI} {sz el:Nat} {gs:List (List AVal)} (h:ARow w I κ ki sz el gs) :
  ∃ news,Zal w I κ sz gs news∧ki.len=gs.length∧∀ w2:World,w2.heap=w.heap→(Builtin.firstCells sz gs.length (.slice (some ⟨ki.b,0,none⟩) ki.len ki.cap)).run P w2 = .ok news.toArray w2:=by
 obtain⟨arr,h1,h2,h3,h4,h5,hfl⟩:=arow_flat h;refine⟨_,hfl,h3,fun w2 hw2 => ?_⟩;have hle:gs.length*sz≤arr.size:=by rw[h2];exact Nat.mul_le_mul_right _ h5
 simp only[Builtin.firstCells];rw[Z60 (u:=fun m=>arr[m]?.getD undef) (fun m hm=>by
  have hm2:m<arr.size:=by omega
  have:w2.cell? ⟨ki.b,0+m,none⟩=w.cell? ⟨ki.b,0+m,none⟩:=by unfold World.cell?;rw[hw2]
  rw[this,Z8n h1,Nat.zero_add];simp[hm2])]
 congr 2;apply List.ext_getElem?;intro m;rw[List.getElem?_map,List.getElem?_take];by_cases hm:m<gs.length*sz
 ·rw[List.getElem?_range hm,if_pos hm]
  have:m<arr.size:=by omega
  simp[this]
 ·rw[if_neg hm,List.getElem?_eq_none (by rw[List.length_range];omega)];rfl
def xAppT (k2:Nat):Ext where
 f P o s:=match o.op with
  | .call { callee:=.builtin .append,args:=⟨[x,y]⟩,argTypes:=ts }=>match ts[0]? with
   | some st=>match Z94   P st,s.eval y with
    | some (e,sz),.own ky=>match Z8k    P e,s.obj ky with
     | some (by_,sz2),some (.arow sz3 e3 [] (n::ns))=>match Nat.beq sz2 sz&&Nat.beq sz3 sz&&Nat.blt 0 by_&&Zbm    P ts&&Zbp      (n::ns) with
      | true=>match s.eval x with
       | .none0=>some ⟨[ky],[k2],.own k2,[(k2,some (.arow sz e [] (n::ns)))],[(n::ns).length*by_≤140737488355328]⟩
       | .own k=>match (s.obj k).bind rowA with
        | some (sz',e',es,fs)=>match Nat.beq sz' sz&&Nat.beq e' e with
         | true=>some ⟨[k,ky],[k2],.own k2,[(k2,some (.arow sz e es (fs++n::ns))),(k,none)],[(es.length+fs.length+(n::ns).length)*by_≤140737488355328]⟩
         | false=>none
        | none=>none
       | _=>none
      | false=>none
     | _,_=>none
    | _,_=>none
   | none=>none
  | _=>none
 ok P o s e he hp:=by
  split at he
  ·rename_i x y ts ho
   split at he
   ·rename_i st hts
    split at he
    ·rename_i el sz ky hel hy
     obtain⟨hu,_⟩:=Z5t hel;split at he
     ·rename_i by_ sz2 sz3 e3 n ns hby hky
      split at he
      ·rename_i hb
       simp only[Bool.and_eq_true,Nat.blt_eq] at hb;obtain⟨⟨⟨⟨b1,b2⟩,b3⟩,b4⟩,b5⟩:=hb;obtain rfl:=Nat.eq_of_beq_eq_true b1;obtain rfl:=Nat.eq_of_beq_eq_true b2;have main:∀ (keys kold:List Nat) (es:List (List Im)) (fs:List (List AVal)),ky∈keys→(∀ k∈kold,k∈keys) →
         ((s.eval x = .none0∧es=[]∧fs=[]∧kold=[])∨∃ k q,s.eval x = .own k∧kold=[k]∧s.obj k=some q∧rowA q=some (sz3,el,es,fs)) →
         (es.length+fs.length+(n::ns).length)*by_≤140737488355328→OpOK P o (mkSp s o keys [k2] (.own k2) ((k2,some (.arow sz3 el es (fs++n::ns)))::kold.map (·,none))):=by
        intro keys kold es fs hkeys hko hx hroom;refine .of fun Γ κ I s2 a w hP hr hn hf => ?_;have hfk:=hf k2 (by simp[mkSp]);have g1:=opd hr hn x (by simp[ho,Op.operands,Call.operands]) rfl;have g2:=opd hr hn y (by simp[ho,Op.operands,Call.operands]) hy;have hky2:=(Z3m hn ky hkeys).trans hky;have hOy:=hr.inv.objs ky _ hky2;have hyr:rowA (.arow sz3 e3 [] (n::ns))=some (sz3,e3,[],n::ns):=rfl;obtain⟨kiy,eκy,hrowy,hyv⟩:∃ ki,κ ky=some ki∧ARow w I κ ki sz3 e3 (n::ns)∧a.eval y = .slice (some ⟨ki.b,0,none⟩) ki.len ki.cap:=by
         rcases rowA_at hyr hOy g2 with ⟨_,_,_,h⟩ | ⟨ki,h1,h2,h3⟩
         ·simp at h
         ·exact⟨ki,h1,h2,h3⟩
        obtain⟨news,hfl,hlen,hcells⟩:=arow_cells (P:=P) hrowy;have hk3:Z90 k2 (n::ns)=false:=hfk.2.1 ky _ hky2;obtain⟨v,w',κ',h1,h2,h3,h4,h5⟩:=appendA_core (P:=P) (ts:=ts) (ty:=o.type) (sv:=a.eval x) (xv:=a.eval y) (news:=news) (kold:=kold) (old:=imL es++fs) (new:=n::ns) (o':=.arow sz3 el es (fs++n::ns)) (k2:=k2) hr.inv hfk hts b4 hu hby b3 (by
         rcases hx with ⟨hx,rfl,rfl,rfl⟩ | ⟨k,q,hx,rfl,hq,hrq⟩
         ·rw[hx] at g1
          obtain⟨base,e⟩:=Z8w g1;exact .inl ⟨base,e,rfl⟩
         ·rw[hx] at g1
          have hq2:=(Z3m hn k (hko k (by simp))).trans hq;rcases rowA_at hrq (hr.inv.objs k _ hq2) g1 with ⟨base,h1,rfl,rfl⟩ | ⟨ki,h1,h2,h3⟩
          ·exact .inl ⟨base,h1,rfl⟩
          ·exact .inr ⟨k,q,ki,rfl,hq2,h1,h2,h3⟩) (by
         rcases hx with ⟨hx,rfl,rfl,rfl⟩ | ⟨k,q,hx,rfl,hq,hrq⟩
         ·rfl
         ·exact rowA_has hrq (hfk.2.1 k _ ((Z3m hn k (hko k (by simp))).trans hq))) hk3 (by simp) (fun w2 _=>by rw[hyv,hlen];simp[Builtin.lenOf]) (by rw[hyv];exact hcells) hfl (flatA_leaf hfl b5) (by rw[List.length_append,Z3s];exact hroom)
         (fun w κ ki h=>by show ARow w I κ ki sz3 el (imL es++(fs++n::ns));rw[← List.append_assoc];exact h)
        exact⟨v,_,w',κ',I,.inl rfl,by simp[execOp,ho,resolve,invoke,builtin,h1],h2,fun _ h=>h,h3,h4,h5⟩
       split at he
       ·rename_i hx
        obtain rfl:=Option.some.inj he;obtain⟨h1,_⟩:=hp;exact main [ky] [] [] [] (by simp) (by simp) (.inl ⟨hx,rfl,rfl,rfl⟩) (by simpa using h1)
       ·rename_i k hx
        split at he
        ·rename_i sz' e' es fs hk
         split at he
         ·rename_i hb2
          simp only[Bool.and_eq_true] at hb2;obtain⟨q1,q2⟩:=hb2;obtain rfl:=Nat.eq_of_beq_eq_true q1;obtain rfl:=Nat.eq_of_beq_eq_true q2;obtain rfl:=Option.some.inj he;obtain⟨h1,_⟩:=hp;obtain⟨q,hq,hrq⟩:=Option.bind_eq_some_iff.1 hk;exact main [k,ky] [k] es fs (by simp) (by simp) (.inr ⟨k,q,hx,rfl,hq,hrq⟩) h1
         ·simp at he
        ·simp at he
       ·simp at he
      ·simp at he
     ·simp at he
    ·simp at he
   ·simp at he
  ·simp at he
def xLenT:Ext where
 f P o s:=match o.op with
  | .call { callee:=.builtin .len,args:=⟨[x]⟩,argTypes:=ts }=>match ts[0]? with
   | some t=>match P.underlying t,s.eval x with
    | some (.slice _),.own k=>match s.obj k with
     | some (.arow sz el es fs)=>some ⟨[k],[],.im (.sc (.int .i64 ((es.length+fs.length:Nat):Int))),[],[]⟩
     | _=>none
    | _,_=>none
   | none=>none
  | _=>none
 ok P o s e he hp:=by
  split at he
  ·rename_i x ts ho
   split at he
   ·rename_i t hts
    split at he
    ·rename_i el k hu hx
     split at he
     ·rename_i sz el es fs hk
      obtain rfl:=Option.some.inj he;refine .quiet rfl fun Γ κ I s2 a w hP hr hn => ?_;have g1:=opd hr hn x (by simp[ho,Op.operands,Call.operands]) hx;have hO:=hr.inv.objs k _ ((Z3m hn k (by simp)).trans hk);have hkr:rowA (.arow sz el es fs)=some (sz,el,es,fs):=rfl;have:∃ base c,a.eval x = .slice base (es.length+fs.length) c:=by
       rcases rowA_at hkr hO g1 with ⟨base,h1,rfl,rfl⟩ | ⟨ki,h1,h2,h3⟩
       ·exact⟨base,0,h1⟩
       ·obtain⟨_,h4,_⟩:=h2
        rw[List.length_append,Z3s] at h4;exact⟨_,_,h4 ▸ h3⟩
      obtain⟨base,c,e⟩:=this;refine⟨.int .i64 ((es.length+fs.length:Nat):Int),?_,.im (.sc _)⟩;have:=Zbj (P:=P) hu o.type base (es.length+fs.length) c w ts hts;simp[execOp,ho,resolve,invoke,builtin,e,this]
     ·simp at he
    ·simp at he
   ·simp at he
  ·simp at he
def Zf2 (i:Nat):Ext where
 f P o s:=match o.op with
  | .indexAddr t x ix=>match Z94   P t,s.eval x,s.eval ix with
   | some (e,sz),.own k,.im (.sc (.int _ n))=>match s.obj k with
    | some (.arow sz' el es fs)=>match Nat.beq sz' sz&&Nat.blt i fs.length with
     | true=>some ⟨[k],[],.ptr k (es.length+i) 0,[],[n=((es.length+i:Nat):Int)]⟩
     | false=>none
    | _=>none
   | _,_,_=>none
  | _=>none
 ok P o s e he hp:=by
  split at he
  ·rename_i t x ix ho
   split at he
   ·rename_i el sz k kk n hel hx hi
    split at he
    ·rename_i sz' el' es fs hk
     split at he
     ·rename_i hb
      simp only[Bool.and_eq_true,Nat.blt_eq] at hb;obtain⟨b1,b2⟩:=hb;obtain rfl:=Nat.eq_of_beq_eq_true b1;obtain rfl:=Option.some.inj he;obtain⟨rfl,_⟩:=hp;refine .quiet rfl fun Γ κ I s2 a w hP hr hn => ?_;have g1:=opd hr hn x (by simp[ho,Op.operands]) hx;have g2:=(opd hr hn ix (by simp[ho,Op.operands]) hi).sc_inv;have hO:=hr.inv.objs k _ ((Z3m hn k (by simp)).trans hk);have hkr:rowA (.arow sz' el' es fs)=some (sz',el',es,fs):=rfl;rcases rowA_at hkr hO g1 with ⟨base,h1,rfl,rfl⟩ | ⟨ki,h1,h2,h3⟩
      ·simp at b2
      ·obtain⟨c1,c2,c3,_⟩:=h2
       rw[List.length_append,Z3s] at c2;have hrun:=Zaz (P:=P) hel (k:=kk) (i:=((es.length+i:Nat):Int)) (b:=ki.b) (off:=0) (len:=ki.len) (cap:=ki.cap) (by omega) (by omega) w;refine⟨.pointer (some ⟨ki.b,0+(es.length+i)*sz',none⟩),?_,?_⟩
       ·rw[Int.toNat_natCast] at hrun
        simp only[execOp,ho,h3,g2,Sem.run_bind,hrun,Result.andThen_ok,Sem.run_pure]
       ·have:=Rep.ptr (w:=w) (I:=I) (e:=es.length+i) (j:=0) h1
        rw[c1] at this;simpa[mkSp] using this
     ·simp at he
    ·simp at he
   ·simp at he
  ·simp at he
theorem place_arow {w:World} {I:Nat→Prop} {κ:Nat→Option KI} {k i j sz el:Nat} {es:List (List Im)} {fs:List (List AVal)} {c:List AVal} {v:Value} (h:Rep w I κ (.ptr k (es.length+i) j) v)
  (ho:OAt w I κ k (.arow sz el es fs)) (hc:fs[i]? = some c):Place w I κ v (c.drop j):=by
 cases h with
 | @ptr _ _ _ ki ek =>
  simp only[OAt,ek,ORep] at ho;obtain⟨h1,_,_,arr,h3,h4,h5⟩:=ho;obtain⟨he,rfl⟩:=List.getElem?_eq_some_iff.1 hc;have hlt:es.length+i<(imL es++fs).length:=by rw[List.length_append,Z3s];omega
  obtain⟨hl,h6⟩:=h5 (es.length+i) hlt;have e1:(imL es++fs)[es.length+i]=fs[i]:=by rw[List.getElem_append_right (by rw[Z3s];omega)];simp[Z3s]
  refine⟨ki.b,(es.length+i)*ki.sz+j,rfl,fun m=>arr[(es.length+i)*sz+(j+m)]?.getD undef,fun m hm => ?_⟩;simp only[List.length_drop] at hm;obtain⟨v,g1,g2⟩:=h6 (j+m) (by rw[e1];omega);simp only[e1] at g2;rw[Z8n h3,List.getElem_drop,h1,Nat.add_assoc];exact⟨by simp[g1],by simpa[g1] using g2⟩
def Zf7 (i:Nat):Ext where
 f P o s:=match o.op with
  | .load t x=>match aggP P t,s.eval x with
   | some (ag,sz),.ptr k e j=>match s.obj k with
    | some (.arow sz' el es fs)=>match fs[i]? with
     | some c=>match Zec   ag sz (c.drop j) with
      | some r=>some ⟨[k],[],r,[],[e=es.length+i]⟩
      | none=>none
     | none=>none
    | _=>none
   | _,_=>none
  | _=>none
 ok P o s e he hp:=by
  split at he
  ·rename_i t x ho
   split at he
   ·rename_i ag sz k e' j ht hx
    split at he
    ·rename_i sz' el es fs hk
     split at he
     ·rename_i c hc
      split at he
      ·rename_i r hr
       obtain rfl:=Option.some.inj he;obtain⟨rfl,_⟩:=hp;refine .quiet rfl fun Γ κ I s2 a w hP hrel hn => ?_;have h1:=opd hrel hn x (by simp[ho,Op.operands]) hx;have h2:=Zd1 hrel.inv ((Z3m hn k (by simp)).trans hk);obtain⟨v,hv,hrep⟩:=Z8y (place_arow h1 h2 hc) ht hr;exact⟨v,by simp[execOp,ho,hv],hrep⟩
      ·simp at he
     ·simp at he
    ·simp at he
   ·simp at he
  ·simp at he
def xStoreT (i:Nat):Ext where
 f P o s:=match o.op with
  | .store t x y=>match aggP P t,s.eval x with
   | some (ag,sz),.ptr k e j=>match s.obj k with
    | some (.arow sz' el es fs)=>match fs[i]? with
     | some c=>match Z3i    (Z17      (s.eval y))&&Nat.blt 0 sz&&Nat.beq (Z17      (s.eval y)).length sz&&Nat.ble (j+sz) c.length with
      | true=>some ⟨[k],[],.top,[(k,some (.arow sz' el es (fs.set i (Z5y c j (Z17 (s.eval y))))))],[e=es.length+i]⟩
      | false=>none
     | none=>none
    | _=>none
   | _,_=>none
  | _=>none
 ok P o s e he hp:=by
  split at he
  ·rename_i t x y ho
   split at he
   ·rename_i ag sz k e' j ht hx
    split at he
    ·rename_i sz' el es fs hk
     split at he
     ·rename_i c hc
      split at he
      ·rename_i hb
       simp only[Bool.and_eq_true,Nat.blt_eq] at hb;obtain⟨⟨⟨hl,h0⟩,hsz⟩,hfit⟩:=hb;have hsz:=Nat.eq_of_beq_eq_true hsz;have hfit:=Nat.le_of_ble_eq_true hfit;obtain rfl:=Option.some.inj he;obtain⟨rfl,_⟩:=hp;refine .of fun Γ κ I s2 a w hP hrel hn hf => ?_;have h1:=opd hrel hn x (by simp[ho,Op.operands]) hx;have h2:=opd hrel hn y (by simp[ho,Op.operands]) rfl;have hk2:=(Z3m hn k (by simp)).trans hk;have h3:=Zd1 hrel.inv hk2;obtain⟨v1,v2,v3⟩:=Z4n h2 hl;obtain⟨he,rfl⟩:=List.getElem?_eq_some_iff.1 hc;generalize hp:a.eval x=p at h1;cases h1 with
       | @ptr _ _ _ ki eκ =>
        simp only[OAt,eκ,ORep] at h3;obtain⟨c1,c2,c3,arr,c4,c5,c6⟩:=h3;have hlt:es.length+i<(imL es++fs).length:=by rw[List.length_append,Z3s];omega
        have e1:(imL es++fs)[es.length+i]=fs[i]:=by rw[List.getElem_append_right (by rw[Z3s];omega)];simp[Z3s]
        obtain⟨hel,hcells⟩:=c6 (es.length+i) hlt;rw[e1] at hel;generalize hV:Z17 (s.eval y)=V at *;have hvl:(a.eval y).cells.toList.length=sz:=by rw[← hsz];simpa using v1
        generalize hE:es.length+i=E at *;have hbound:E*sz'+j+sz≤arr.size:=by
         have h4:(E+1)*sz'≤ki.cap*sz':=Nat.mul_le_mul_right _ (by omega);rw[Nat.add_mul] at h4;rw[c5];omega
        let ob:Obj:=.cells (Z3l arr (E*sz'+j) (a.eval y).cells.toList) el (0,0)
        have hrun:(execOp a.eval o).run P w = .ok .skip (World.setBlock w ki.b ob):=by
         have hst:=Z7b (P:=P) (b:=ki.b) (el:=el) (a.eval y).cells.toList w arr (E*sz'+j) 0 c4 (by rw[hvl];omega) v3 (by intro e;rw[e] at hvl;simp at hvl;omega);simp only[execOp,ho,hp,Instr.storeAt,Instr.sureAddr,pure_bind,storeVar,Sem.run_bind,Z27 ht,Result.andThen_ok];rw[if_neg (by simp at hvl;simp[hvl])];simp only[Nat.add_zero] at hst;simp[c1,hst,ob]
        have hb:ki.b<w.heap.size:=(Array.getElem?_eq_some_iff.1 c4).1;have hne:∀ b,I b→(World.setBlock w ki.b ob).heap[b]? = w.heap[b]? := fun b hb'=>by
         rw[Z30 _ _ _ _ hb,if_neg];rintro rfl;exact hrel.inv.disj k _ ki hk2 eκ hb'
        have e2:imL es++fs.set i (Z5y fs[i] j V)=(imL es++fs).set E (Z5y fs[i] j V):=by
         rw[List.set_append,if_neg (by rw[Z3s];omega),Z3s,show E-es.length=i from by omega]
        have hO:ORep (World.setBlock w ki.b ob) I κ ki (.arow sz' el es (fs.set i (Z5y fs[i] j V))):=by
         show ARow _ _ _ _ _ _ (imL es++fs.set i (Z5y fs[i] j V));rw[e2];have hsl:=Z5z (l:=fs[i]) (r:=V) (j:=j) (by omega);refine⟨c1,by simpa using c2,by simpa using c3,Z3l arr (E*sz'+j) (a.eval y).cells.toList,by rw[Z30 _ _ _ _ hb,if_pos rfl],by rw[Z5i];exact c5,fun q hq => ?_⟩;rw[List.length_set] at hq;by_cases hie:E=q
         ·subst hie
          simp only[List.getElem_set_self];refine⟨by rw[hsl];exact hel,fun m hm => ?_⟩;rw[hsl] at hm;rw[Z4t _ _ _ _ (by rw[hvl];exact hbound),Zaa (by omega)];by_cases hin:j≤m∧m<j+V.length
          ·rw[if_pos (by rw[hvl];omega),dif_pos hin]
           obtain⟨u,q1,q2⟩:=v2 (m-j) (by omega);refine⟨u,?_,q2.mono (fun _ h=>h) hne (fun _ _=>rfl)⟩;rw[show E*sz'+m-(E*sz'+j)=m-j from by omega];simpa using q1
          ·rw[if_neg (by rw[hvl];omega),dif_neg hin]
           obtain⟨u,q1,q2⟩:=hcells m (by rw[e1];exact hm);simp only[e1] at q2;exact⟨u,q1,q2.mono (fun _ h=>h) hne (fun _ _=>rfl)⟩
         ·rw[List.getElem_set_ne hie]
          obtain⟨g1,g2⟩:=c6 q hq;refine⟨g1,fun m hm => ?_⟩;obtain⟨u,q1,q2⟩:=g2 m hm;refine⟨u,?_,q2.mono (fun _ h=>h) hne (fun _ _=>rfl)⟩;rw[Z4t _ _ _ _ (by rw[hvl];exact hbound),if_neg]
          ·exact q1
          ·intro hin
           rw[hvl] at hin;have hm':m<sz':=by rw[← g1];exact hm
           rcases Nat.lt_or_gt_of_ne hie with hlt2 | hgt
           ·have:=Nat.mul_le_mul_right sz' (show E+1≤q from hlt2)
            rw[Nat.add_mul] at this;omega
           ·have:=Nat.mul_le_mul_right sz' (show q+1≤E from hgt)
            rw[Nat.add_mul] at this;omega
        obtain⟨g1,g2⟩:=hrel.inv.update hk2 eκ hO;exact⟨undef,.skip,_,κ,I,.inr ⟨rfl,rfl⟩,hrun,g1,fun _ h=>h,g2,fun _ _ _=>rfl,.top _⟩
      ·simp at he
     ·simp at he
    ·simp at he
   ·simp at he
  ·simp at he
def xOneT (k:Nat):Ext where
 f P o s:=match o.op with
  | .buildSlice t n parts=>match Z94   P t,Za7      0 parts.toList with
   | some (e,sz),some [x]=>match Z8k    P e with
    | some (by_,sz2)=>match Nat.beq sz2 sz&&Nat.beq n 1&&Nat.beq (Z17      (s.eval x)).length sz&&Z3i    (Z17      (s.eval x))&&Nat.ble sz (2 ^ 24)&&Nat.blt 0 sz with
     | true=>some ⟨[],[k],.own k,[(k,some (.arow sz e [] [Z17 (s.eval x)]))],[]⟩
     | false=>none
    | none=>none
   | _,_=>none
  | _=>none
 ok P o s e he hp:=by
  split at he
  ·rename_i t n parts ho
   split at he
   ·rename_i el sz x hel hxs
    split at he
    ·rename_i by_ sz2 hby
     split at he
     ·rename_i hb
      simp only[Bool.and_eq_true,Nat.blt_eq] at hb;obtain⟨⟨⟨⟨⟨b1,b2⟩,b3⟩,b4⟩,b5⟩,b6⟩:=hb;obtain rfl:=Nat.eq_of_beq_eq_true b1;obtain rfl:=Nat.eq_of_beq_eq_true b2;have b3:=Nat.eq_of_beq_eq_true b3;have b5:=Nat.le_of_ble_eq_true b5;obtain rfl:=Option.some.inj he;have hparts:parts=(Z4j 0 [x]).toArray:=by rw[← Zdt hxs]
      refine .of fun Γ κ I s2 a w hP hr hn hf => ?_;have hfk:=hf k (by simp[mkSp]);have hx:=opd hr hn x (by simp[ho,Op.operands,hparts,Z4j]) rfl;obtain⟨v1,v2,v3⟩:=Z4n hx b4;obtain⟨hu,ag,hag⟩:=Z5t hel;obtain⟨i,z,hi,hz,hb1,hb2,hb3⟩:=Z97 hby;have hxs2:(a.eval x).cells.size=sz2:=by rw[v1,b3]
      obtain⟨arr,ha1,ha2⟩:=fill_all (sz:=sz2) [a.eval x] 0 ((Array.range (1*sz2)).map (z.cells[· % z.cells.size]!)) (by simpa using hxs2) (by simp);simp only[Nat.zero_mul,List.take_zero,List.nil_append,List.flatMap_cons,List.flatMap_nil,List.append_nil] at ha2;have hpm:(parts.map fun(x:Nat×Operand)=>match x with | (i,x)=>(i,a.eval x))=(Z4j 0 [a.eval x]).toArray:=by
       rw[hparts];simp[Z4j]
      have hrun:(execOp a.eval o).run P w = .ok (.value (.slice (some ⟨w.heap.size,0,none⟩) 1 1)) (World.alloc' w (.cells arr el)):=by
       simp only[execOp,ho,Instr.buildSlice];have h24:¬ (1*sz2>2 ^ 24):=by omega
       have h0:¬ (1*sz2=0):=by omega
       rw[hpm];simp only[Sem.run_bind,Zp hu,Result.andThen_ok,Z27 hag];rw[if_neg h24,if_neg h0];simp only[Sem.run_bind,zeroValue,Z3a hi,Result.andThen_ok,hz,pure_bind,Sem.run_pure,ha1];simp[newRow,newObj,Sem.run,World.alloc']
      let ki:KI:=⟨w.heap.size,1,sz2,1⟩
      have hk3:hasL k (Z17 (s.eval x))=false:=by
       have h1:=Zcn hfk x;rw[Z43 hn x (by simp[ho,Op.operands,hparts,Z4j])] at h1;rw[Za1];exact h1
      have hO:ORep (World.alloc' w (.cells arr el)) I (setK κ k (some ki)) ki (.arow sz2 el [] [Z17 (s.eval x)]):=by
       refine arow_of (vs:=(a.eval x).cells.toList) (rest:=[]) ?_ ⟨by simp[hxs2,imL],fun i hi => ?_,fun i hi j hj => ?_⟩ rfl (by simp[ki,imL]) (by simp[ki,imL]) (by simp[hxs2,ki])
       ·rw[List.append_nil,← ha2];exact Z89 _ _
       ·have:i=0:=by simpa[imL] using hi
        subst this;exact b3
       ·have:i=0:=by simpa[imL] using hi
        subst this;obtain⟨u,e,r⟩:=v2 j hj;refine⟨u,by simpa using e,r.mono (fun _ h=>h) (fun b hb=>Z6f _ _ _ (hr.inv.bound b hb)) (fun q hq=>Zay _ _ _ ?_)⟩;rintro rfl;rw[Z7f hk3 j hj] at hq;cases hq
      obtain⟨q1,q2,q3⟩:=hr.inv.alloc hfk (ki:=ki) rfl hO;exact⟨_,_,_,setK κ k (some ki),I,.inl rfl,hrun,q1,fun _ h=>h,q2,q3,Rep.own (k:=k) (ki:=ki) (Z2v ..)⟩
     ·simp at he
    ·simp at he
   ·simp at he
  ·simp at he
theorem cut_w0 {n:Nat} (h:(n+2)*24≤140737488355328):IntKind.i64.wrap ((n+1:Nat)-(1:Int))=((n+0:Nat):Int):=by
 rw[Zc (by omega) (by omega)];omega
theorem cut_w1 {n:Nat} (h:(n+2)*24≤140737488355328):IntKind.i64.wrap (IntKind.i64.wrap ((n+1:Nat)+(1:Int))-(1:Int))=((n+1:Nat):Int):=by
 rw[Zc (n:=((n+1:Nat):Int)+1) (by omega) (by omega),Zc (by omega) (by omega)];omega
theorem Inv.data {Γ:Ctx} {κ:Nat→Option KI} {I:Nat→Prop} {s:Z5} {w w':World} (h:Inv Γ κ I s w) (h1:∀ b,b<w.heap.size→w'.heap[b]? = w.heap[b]?) (h2:w'.heap.size=w.heap.size+1)
  (h3:w'.os=w.os) (h4:w'.tape=w.tape) (h5:w'.output=w.output):Inv Γ κ (fun b=>I b∨b=w.heap.size) s w'∧∀ b,I b→w'.heap[b]? = w.heap[b]? := by
 have hI:∀ b,I b→w'.heap[b]? = w.heap[b]? := fun b hb=>h1 b (h.bound b hb)
 have hlt:∀ k o ki,s.obj k=some o→κ k=some ki→ki.b<w.heap.size:=by
  intro k o ki e eκ;have:=h.objs k o e;simp only[OAt,eκ] at this;cases o with
  | row=>obtain⟨_,_,_,arr,h3,_⟩:=this;exact(Array.getElem?_eq_some_iff.1 h3).1
  | box=>obtain⟨_,_,arr,h3,_⟩:=this;exact(Array.getElem?_eq_some_iff.1 h3).1
  | map=>obtain⟨arr,h3,_⟩:=this;exact(Array.getElem?_eq_some_iff.1 h3).1
  | iter=>obtain⟨bm,h3,_⟩:=this;exact(Array.getElem?_eq_some_iff.1 h3).1
  | arow=>obtain⟨_,_,_,arr,h3,_⟩:=this;exact(Array.getElem?_eq_some_iff.1 h3).1
 refine⟨⟨fun k o hk => ?_,h.inj,fun k o ki hk e hb => ?_,fun b hb => ?_,?_,fun b hb=>.inl (h.ikeep b hb),fun b hb => ?_,h.fromO,h.fix⟩,hI⟩
 ·have:=h.objs k o hk
  unfold OAt at this ⊢;cases e:κ k with
  | none=>rw[e] at this;exact this
  | some ki=>rw[e] at this;exact this.mono (fun b h=>.inl h) hI (h1 _ (hlt k o ki hk e)) (fun _ _=>rfl)
 ·rcases hb with hb | hb
  ·exact h.disj k o ki hk e hb
  ·have:=hlt k o ki hk e;omega
 ·rcases hb with hb | hb
  ·have:=h.bound b hb;omega
  ·omega
 ·exact⟨h3.trans h.keep.os,h4.trans h.keep.tape,h5.trans h.keep.output,by have:=h.keep.size;omega,fun b hb hn=>(h1 b (Nat.lt_of_lt_of_le hb h.keep.size)).trans (h.keep.block b hb hn)⟩
 ·rcases hb with hb | hb
  ·exact h.fromI b hb
  ·exact .inr (.inr (by have:=h.keep.size;omega))
def xBytes:Ext where
 f P o s:=match o.op with
  | .convert st t x=>match P.underlying st,P.underlying t,s.eval x with
   | some .string,some (.slice e),.im (.sc (.string b))=>match P.underlying e with
    | some (.int .u8)=>some ⟨[],[],.im (.row ((Z5g b).map (Z6c .u8))),[],[]⟩
    | _=>none
   | _,_,_=>none
  | _=>none
 ok P o s e he hp:=by
  split at he
  ·rename_i st t x ho
   split at he
   ·rename_i el b hs ht hx
    split at he
    ·rename_i hu
     obtain rfl:=Option.some.inj he;refine .of fun Γ κ I s2 a w hP hr hn hf => ?_;have g:=(opd hr hn x (by simp[ho,Op.operands]) hx).sc_inv;have hrun:=Lib.run_convert_string_bytes (P:=P) w st t el b hs ht hu;obtain⟨i1,i2⟩:=hr.inv.data (w':=Lib.bytesWorld w el b) (fun j hj=>Lib.bytesWorld_at_old w el b j hj) (Lib.bytesWorld_size w el b) (by
      unfold Lib.bytesWorld;unfold World.freeze;split<;>rfl) (by unfold Lib.bytesWorld;unfold World.freeze;split<;>rfl) (by unfold Lib.bytesWorld;unfold World.freeze;split<;>rfl)
     refine⟨.slice (some ⟨w.heap.size,0,none⟩) b.size (grownCap w b.size 0 el),_,Lib.bytesWorld w el b,κ,fun c=>I c∨c=w.heap.size,.inl rfl,by simp only[execOp,ho,g,Sem.run_bind,hrun,Result.andThen_ok,Sem.run_pure],i1,fun c hc=>.inl hc,i2,fun _ _ _=>rfl,.im ?_⟩;have hlen:b.size=((Z5g b).map (Z6c .u8)).length:=by rw[List.length_map];simp only[Z5g,List.length_map,Array.length_toList];rfl
     refine IRep.row (sz:=1) (off:=0) (fun i _=>.int .u8 ((b.data.toList.getD i 0).toNat)) hlen (.inr rfl) ?_ (fun i h => ?_) (fun i j hi hj => ?_) (fun i h j h' => ?_)
     ·show b.size≤grownCap w b.size 0 el
      unfold grownCap Question.cut;exact Nat.le_add_right ..
     ·simp
     ·have:j=0:=by omega
      subst this;rw[show 0+(i*1+0)=i from by omega];exact Lib.bytesWorld_cell w el b i (by omega)
     ·simp only[List.getElem_map,Z6c   ,List.length_cons,List.length_nil] at h'
      have:j=0:=by omega
      subst this;simp only[List.length_map] at h;have hl2:i<b.data.toList.length:=by simpa[Z5g] using h
      have e1:((Z5g b).map (Z6c .u8))[i]'(by simpa using h)=[.sc (.int .u8 ((b.data.toList.getD i 0).toNat))]:=by
       rw[List.getElem_map];have:(Z5g b)[i]=((b.data.toList.getD i 0).toNat:Int):=by
        simp only[Z5g,List.getElem_map];rw[List.getD_eq_getElem?_getD,List.getElem?_eq_getElem hl2];rfl
       rw[this]
      simp only[e1,List.getElem_cons_zero];exact .sc _
    ·simp at he
   ·simp at he
  ·simp at he
theorem OpOK.frozenG {P:Program} {o:Oper} {s:Z5} {keys news ids:List Nat} {res:AVal} {post:List (Nat×Option MObj)} {k sz el:Nat} {es:List (List Im)} (h:OpOK P o (mkSp s o keys news res post))
  (hk:look post k=some (some (.row sz el es))):OpOK P o (mkSp s o keys news (pass (ids.map fun q=>(q,q)) [(k,es)] res) ((k,none)::post)):=by
 intro Γ hP hd s2 a w hs hn hf K Q hK;refine h Γ hP hd s2 a w hs hn hf K Q (fun a' w' hs'=>hK a' w' ?_);obtain⟨κ,I,hr⟩:=hs';have hact:∀ (res:AVal) (post:List (Nat×Option MObj)) (q:Nat),((mkSp s o keys news res post).act o.dst s2).obj q=(s2.objput post).obj q:=fun res post q=>Z5.obj_put _ _ _ _
 have hobjk:((mkSp s o keys news res post).act o.dst s2).obj k=some (.row sz el es):=by
  rw[hact];show(look (post++s2.objs) k).getD none=_;rw[Z84,hk];rfl
 have hO:=hr.inv.objs k _ hobjk
 let I':Nat→Prop:=fun b=>I b∨∃ ki,κ k=some ki∧ki.b=b
 have hI:∀ b,I b→I' b:=fun b h=>.inl h
 have hold:∀ k' q,((mkSp s o keys news (pass (ids.map fun q=>(q,q)) [(k,es)] res) ((k,none)::post)).act o.dst s2).obj k'=some q→k'≠k∧((mkSp s o keys news res post).act o.dst s2).obj k'=some q:=by
  intro k' q hq;rw[hact] at hq ⊢;change (look ((k,none)::(post++s2.objs)) k').getD none=_ at hq;change _∧(look (post++s2.objs) k').getD none=_;rw[Z3g] at hq;by_cases e:k=k'
  ·rw[if_pos e] at hq;simp at hq
  ·rw[if_neg e] at hq;exact⟨fun h=>e h.symm,hq⟩
 have hnot:∀ k' q ki ki',k'≠k→((mkSp s o keys news res post).act o.dst s2).obj k'=some q→κ k'=some ki'→κ k=some ki→ki'.b≠ki.b:=by
  intro k' q ki ki' hne hq e1 e2 hb;exact hne (hr.inv.inj k' k q _ ki' ki hq hobjk e1 e2 hb)
 refine⟨κ,I',hr.size,hr.defers,fun x => ?_,?_,?_,?_,?_,hr.inv.keep,fun b h=>.inl (hr.inv.ikeep b h),?_,?_,?_⟩
 ·have g:=hr.slots x
  revert g;simp only[Sp.act,mkSp];cases o.dst with
  | none=>exact fun g=>g.mono hI (fun _ _=>rfl) (fun _ _=>rfl)
  | some d =>
   rw[Z5.get_put,Z5.get_put];by_cases e:d=x
   ·rw[if_pos e,if_pos e]
    intro g;exact Z4d (I':=I') (κc:=κ) (inv:=ids.map fun q=>(q,q)) (views:=[(k,es)]) hI (by
     intro a b h;obtain⟨p,hp,e⟩:=List.mem_map.1 (Z4e h);simp at e;obtain⟨rfl,rfl⟩:=e;rfl) (fun k' es' h=>by
     rw[Z3g] at h;split at h
     ·rename_i e';subst e';simp at h;subst h
      exact⟨⟨sz,el,hO⟩,fun ki e=>.inr ⟨ki,e,rfl⟩⟩
     ·simp[look] at h) g
   ·rw[if_neg e,if_neg e]
    exact fun g=>g.mono hI (fun _ _=>rfl) (fun _ _=>rfl)
 ·intro k' q hq
  obtain⟨hne,hq⟩:=hold k' q hq;have:=hr.inv.objs k' q hq;unfold OAt at this ⊢;cases e:κ k' with
  | none=>rw[e] at this;exact this
  | some ki=>rw[e] at this;exact this.mono hI (fun _ _=>rfl) rfl (fun _ _=>rfl)
 ·intro q1 q2 o1 o2 ki1 ki2 h1 h2 f1 f2 hb
  exact hr.inv.inj q1 q2 o1 o2 ki1 ki2 (hold q1 o1 h1).2 (hold q2 o2 h2).2 f1 f2 hb
 ·intro q o' ki hq f hIb
  obtain⟨hne,hq⟩:=hold q o' hq;rcases hIb with hIb | ⟨ki',e1,e2⟩
  ·exact hr.inv.disj q o' ki hq f hIb
  ·exact hnot q o' ki' ki hne hq f e1 e2.symm
 ·intro b hIb
  rcases hIb with hIb | ⟨ki,e1,rfl⟩
  ·exact hr.inv.bound b hIb
  ·have:=hO
   simp only[OAt,e1] at this;obtain⟨_,_,_,arr,h3,_⟩:=this;exact(Array.getElem?_eq_some_iff.1 h3).1
 ·intro b hIb
  rcases hIb with hIb | ⟨ki,e1,rfl⟩
  ·exact hr.inv.fromI b hIb
  ·rcases hr.inv.fromO k _ ki hobjk e1 with h | h
   ·exact .inr (.inl h)
   ·exact .inr (.inr h)
 ·intro q o' ki hq f
  exact hr.inv.fromO q o' ki (hold q o' hq).2 f
 ·intro q hq
  refine hr.inv.fix q ?_;have e1:((mkSp s o keys news (pass (ids.map fun q=>(q,q)) [(k,es)] res) ((k,none)::post)).act o.dst s2).floor=s2.floor:=by cases o.dst<;>rfl
  have e2:((mkSp s o keys news res post).act o.dst s2).floor=s2.floor:=by cases o.dst<;>rfl
  rw[e1] at hq;rw[e2];exact hq
def xFzG (k:Nat) (ids:List Nat) (h:Hint):Ext where
 f P o s:=match autoOp P h o s with
  | some e=>match look e.post k with
   | some (some (.row sz el es))=>some ⟨e.keys,e.news,pass (ids.map fun q=>(q,q)) [(k,es)] e.res,(k,none)::e.post,e.props⟩
   | _=>none
  | none=>none
 ok P o s e he hp:=by
  split at he
  ·rename_i e0 h0
   split at he
   ·rename_i sz el es hl
    obtain rfl:=Option.some.inj he;exact(Zev h0 hp).frozenG hl
   ·simp at he
  ·simp at he
end Go.Pv
