import Derived.Test.YtpoihfcehejgfaaGreatPxBlockMakes11
set_option linter.unusedVariables false
set_option linter.unusedSimpArgs false
namespace Go.Pv
open Go.Pv.GS
theorem Z9e (a:List UInt8):Op.bytesLess a []=false:=by cases a<;>rfl
theorem Zav (b:UInt8) (y:List UInt8):Op.bytesLess [] (b::y)=true:=rfl
theorem bl_cons (a b:UInt8) (x y:List UInt8):Op.bytesLess (a::x) (b::y)=(decide (a<b)||(a==b&&Op.bytesLess x y)):=rfl
theorem Zaw:∀ a:List UInt8,Op.bytesLess a a=false
 | []=>rfl
 | a::x=>by rw[bl_cons,Zaw x];simp[UInt8.lt_irrefl]
theorem bl_tri:∀ a b:List UInt8,Op.bytesLess a b=false→Op.bytesLess b a=false→a=b
 | [],[],_,_=>rfl
 | [],b::y,h,_=>by rw[Zav] at h;exact absurd h (by simp)
 | a::x,[],_,h=>by rw[Zav] at h;exact absurd h (by simp)
 | a::x,b::y,h1,h2=>by
  rw[bl_cons,Bool.or_eq_false_iff] at h1 h2;have e:a=b:=by
   have n1:¬ a<b:=by simpa using h1.1
   have n2:¬ b<a:=by simpa using h2.1
   exact UInt8.le_antisymm (UInt8.not_lt.1 n2) (UInt8.not_lt.1 n1)
  subst e;have g1:=h1.2;have g2:=h2.2;simp at g1 g2;rw[bl_tri x y g1 g2]
theorem Z74:∀ a b c:List UInt8,Op.bytesLess a b=true→Op.bytesLess b c=true→Op.bytesLess a c=true
 | a,[],c,h,_=>by rw[Z9e] at h;exact absurd h (by simp)
 | a,b::y,[],_,h=>by rw[Z9e] at h;exact absurd h (by simp)
 | [],b::y,c::z,_,_=>rfl
 | a::x,b::y,c::z,h1,h2=>by
  rw[bl_cons] at h1 h2 ⊢;simp only[Bool.or_eq_true,decide_eq_true_eq,Bool.and_eq_true,beq_iff_eq] at h1 h2 ⊢;rcases h1 with h1 | ⟨rfl,h1⟩
  ·rcases h2 with h2 | ⟨rfl,h2⟩
   ·exact .inl (UInt8.lt_trans h1 h2)
   ·exact .inl h1
  ·rcases h2 with h2 | ⟨rfl,h2⟩
   ·exact .inl h2
   ·exact .inr ⟨rfl,Z74 x y z h1 h2⟩
theorem bl_asymm {a b:List UInt8} (h:Op.bytesLess a b=true):Op.bytesLess b a=false:=by
 cases e:Op.bytesLess b a with
 | false=>rfl
 | true=>have:=Z74 a b a h e;rw[Zaw] at this;exact absurd this (by simp)
theorem bl_ntrans {a b c:List UInt8} (h1:Op.bytesLess b a=false) (h2:Op.bytesLess c b=false):Op.bytesLess c a=false:=by
 cases e:Op.bytesLess c a with
 | false=>rfl
 | true =>
  cases e2:Op.bytesLess b c with
  | true=>rw[Z74 b c a e2 e] at h1;exact absurd h1 (by simp)
  | false=>have:=bl_tri b c e2 h2;subst this;rw[e] at h1;exact absurd h1 (by simp)
theorem eqB (a b:ByteArray):(a.toList==b.toList)=decide (a=b):=by
 rw[Bool.eq_iff_iff,beq_iff_eq,decide_eq_true_eq,Z6r,Z6r];exact⟨fun h=>ext_L h,fun h=>by rw[h]⟩
abbrev bl (a b:ByteArray):Bool:=Op.bytesLess a.toList b.toList
theorem bl_tri' {a b:ByteArray} (h1:bl a b=false) (h2:bl b a=false):a=b:=by
 have:=bl_tri _ _ h1 h2;rw[Z6r,Z6r] at this;exact ext_L this
theorem Z91 (a:ByteArray):bl a a=false:=Zaw _
end Go.Pv
namespace Go.Pv.GS
section Defs
variable {α:Type} (pred:α→Option Bool) (z:α)
def indexF.l0 (a0:List α) (x30:Int):Option (Int ⊕ Unit):=if(decide (x30<(a0.length:Int)))=true then((at? a0 x30)>>=fun b37=>(pred b37)>>=fun t40=>if t40=true then(some (.inl x30)) else(indexF.l0 a0 (IntKind.i64.wrap (x30+(1:Int))))) else(some (.inr ()))
partial_fixpoint
def indexF.f (a0:List α):Option (Int):=(indexF.l0 pred a0 0)>>=fun oo=>match oo with | .inl rr=>(some rr) | .inr _=>(some (-1))
def deleteF.l0 (x70:List α) (x71 x72:Int):Option ((List α)×Int):=if(decide (x72<(x70.length:Int)))=true then((at? x70 x72)>>=fun b77=>(pred b77)>>=fun t82=>((if(!t82)=true then((at? x70 x71)>>=fun b88=>some (x70.set (Int.toNat (x71)) b77,IntKind.i64.wrap (x71+(1:Int)))) else(some (x70,x71))):Option ((List α)×Int))>>=fun oo=>match oo with | (x91,x92)=>(deleteF.l0 x91 x92 (IntKind.i64.wrap (x72+(1:Int))))) else(some (x70,x71))
partial_fixpoint
def deleteF.f (a0:List α):Option (List α):=(indexF.f pred a0)>>=fun t47=>if(t47==(-1))=true then(some a0) else((deleteF.l0 pred a0 t47 (IntKind.i64.wrap (t47+(1:Int))))>>=fun oo=>match oo with | (x93,x94)=>((chk (0≤x94∧x94≤(x93.length:Int)))>>=fun _=>(chk (0≤x94∧x94≤((x93.take (Int.toNat x94)++List.replicate (x93.length-(Int.toNat x94)) z).length:Int)))>>=fun _=>some ((x93.take (Int.toNat x94)++List.replicate (x93.length-(Int.toNat x94)) z).take (Int.toNat (x94)))))
end Defs
variable {α:Type} {pred:α→Option Bool} {p:α→Bool}
theorem index_l0 (hp:∀ x,pred x=some (p x)) (l:List α) (hl:l.length<10000000000000):∀ (suf pre:List α) (i:Int),l=pre++suf→i=(pre.length:Int)→(∀ x∈pre,p x=false) →
  (indexF.l0 pred l i=some (.inr ())∧(∀ x∈l,p x=false))∨∃ A x B,l=A++x::B∧p x=true∧(∀ y∈A,p y=false)∧indexF.l0 pred l i=some (.inl (A.length:Int)):=by
 intro suf
 induction suf with
 | nil=>intro pre i h1 hi h;rw[indexF.l0,if_neg (by rw[h1];simp[hi])];exact .inl ⟨rfl,by rw[h1,List.append_nil];exact h⟩
 | cons x suf ih =>
  intro pre i h1 hi h;have hlen:(l.length:Int)=pre.length+(suf.length+1):=by rw[h1];simp
  rw[indexF.l0,if_pos (by simp;omega),Z1s h1 hi,sb,hp x,sb];cases e:p x with
  | true=>rw[if_pos rfl,hi];exact .inr ⟨pre,x,suf,h1,e,h,rfl⟩
  | false =>
   rw[if_neg (by simp),Z0b (by omega) (by omega)];exact ih (pre++[x]) (i+1) (by simp[h1]) (by simp;omega) (by intro y hy;rcases List.mem_append.1 hy with hy | hy;exact h y hy;simp at hy;rw[hy];exact e)
theorem delete_l0 (hp:∀ x,pred x=some (p x)):∀ (S A G:List α) (i j:Int),(A++G++S).length<10000000000000→0<G.length→i=(A.length:Int)→j=((A.length+G.length:Nat):Int) →
  ∃ T,deleteF.l0 pred (A++G++S) i j=some (A++S.filter (fun x => !p x)++T,((A++S.filter (fun x => !p x)).length:Int)):=by
 intro S
 induction S with
 | nil =>
  intro A G i j hl hg hi hj;rw[deleteF.l0,if_neg (by simp;omega)];exact⟨G,by simp[hi]⟩
 | cons s S ih =>
  intro A G i j hl hg hi hj;simp only[List.length_append,List.length_cons] at hl;have e1:at? (A++G++s::S) j=some s:=Z1s rfl (by simp;omega);obtain⟨g,G',rfl⟩:∃ g G',G=g::G':=by cases G with | nil=>simp at hg | cons g G'=>exact⟨g,G',rfl⟩
  simp only[List.length_cons] at hl hj;have e2:at? (A++g::G'++s::S) i=some g:=Z1s (pre:=A) (suf:=G'++s::S) (by simp) hi;rw[deleteF.l0,if_pos (by simp;omega),e1,sb,hp s,sb,Z0b (n:=j+1) (by omega) (by omega)];cases e:p s with
  | false =>
   have e3:(A++g::G'++s::S).set (Int.toNat i) s=(A++[s])++(G'++[s])++S:=by
    rw[hi,Int.toNat_natCast];simp
   rw[if_pos (show(!false)=true from rfl),e2,sb,sb,e3,Z0b (n:=i+1) (by omega) (by omega)];obtain⟨T,h⟩:=ih (A++[s]) (G'++[s]) (i+1) (j+1) (by simp;omega) (by simp) (by simp;omega) (by simp;omega);refine⟨T,?_⟩
   try dsimp only
   rw[h];simp[e]
  | true =>
   rw[if_neg (show ¬ (!true)=true by simp),sb];obtain⟨T,h⟩:=ih A (g::G'++[s]) i (j+1) (by simp;omega) (by simp) hi (by simp;omega);refine⟨T,?_⟩;have e3:A++(g::G'++[s])++S=A++g::G'++s::S:=by simp
   rw[e3] at h
   try dsimp only
   rw[h];simp[e]
theorem Zbm (hp:∀ x,pred x=some (p x)) (z:α) (l:List α) (hl:l.length<10000000000000):deleteF.f pred z l=some (l.filter (fun x => !p x)):=by
 unfold deleteF.f indexF.f;rcases index_l0 hp l hl l [] 0 rfl rfl (by simp) with ⟨e,h⟩ | ⟨A,x,B,h1,h2,h3,e⟩
 ·rw[e,sb,sb,if_pos (by decide)]
  refine congrArg some ?_;exact(List.filter_eq_self.2 (fun y hy=>by rw[h y hy];rfl)).symm
 ·have hlen:(l.length:Int)=A.length+(B.length+1):=by rw[h1];simp
  rw[e,sb,sb,if_neg (by simp;try omega),Z0b (by omega) (by omega)];obtain⟨T,h⟩:=delete_l0 hp B A [x] (A.length:Int) ((A.length:Int)+1) (by rw[h1] at hl;simpa using hl) (by simp) rfl (by simp);have e3:A++[x]++B=l:=by rw[h1];simp
  rw[e3] at h;rw[h,sb]
  try dsimp only
  have fl:l.filter (fun x => !p x)=A++B.filter (fun x => !p x):=by
   rw[h1,List.filter_append,List.filter_cons,h2,List.filter_eq_self.2 (fun y hy=>by rw[h3 y hy];rfl)];simp
  rw[fl];generalize A++B.filter (fun x => !p x)=R;rw[chkB (by simp;omega),chkB (by simp;omega),Int.toNat_natCast];congr 1;rw[List.take_left,List.take_left]
end Go.Pv.GS
