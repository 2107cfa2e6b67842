import Derived.Test.YtpoihfcehejgfaaGreatPxBlockMakes15
set_option linter.unusedVariables false
set_option linter.unusedSimpArgs false
set_option maxRecDepth 100000
namespace Go.Pv
def bits8 (x:Int):List Bool:=(List.range 8).map fun k=>x.toNat.testBit (7-k)
theorem bits8_len (x:Int):(bits8 x).length=8:=by simp[bits8]
def Byte (x:Int):Prop:=0≤x∧x<256
def nb (n:Nat):Nat→List Bool
 | 0=>[]
 | k+1=>n.testBit k::nb n k
def val (s:List Bool):Nat:=s.foldl (fun v b=>2*v+b.toNat) 0
def bitsOf (l:List Int):List Bool:=l.flatMap bits8
theorem bitsOf_len (l:List Int):(bitsOf l).length=8*l.length:=by
 induction l with
 | nil=>rfl
 | cons x l ih=>rw[bitsOf,List.flatMap_cons,List.length_append,bits8_len];unfold bitsOf at ih;rw[ih,List.length_cons];omega
structure Laid (b:List Int) (free:Nat) (s:List Bool):Prop where
 byte:∀ x∈b,Byte x
 lt:free<8
 bits:bitsOf b=s++List.replicate free false
theorem Laid.nil:Laid [] 0 []:=⟨by simp,by omega,rfl⟩
theorem Laid.len {b:List Int} {f:Nat} {s:List Bool} (h:Laid b f s):8*b.length=s.length+f:=by
 have:=congrArg List.length h.bits;rw[bitsOf_len] at this;simpa using this
end Go.Pv
namespace Go.Pv.GS
section Defs
variable {α β:Type} (cmp:α→β→Option Int)
def binF.l0 (a0:List α) (a1:β) (x2114 x2115:Int):Option (Int):=if(decide (x2114<x2115))=true then((at? a0 (IntKind.i64.wrap (Int.fdiv (IntKind.u64.wrap (IntKind.i64.wrap (x2114+x2115))) 2)))>>=fun b2122=>(cmp b2122 a1)>>=fun t2125=>((if(decide (t2125<(0:Int)))=true then(some (IntKind.i64.wrap ((IntKind.i64.wrap (Int.fdiv (IntKind.u64.wrap (IntKind.i64.wrap (x2114+x2115))) 2))+(1:Int)),x2115)) else(some (x2114,IntKind.i64.wrap (Int.fdiv (IntKind.u64.wrap (IntKind.i64.wrap (x2114+x2115))) 2)))):Option (Int×Int))>>=fun oo=>match oo with | (x2128,x2129)=>(binF.l0 a0 a1 x2128 x2129)) else(some x2114)
partial_fixpoint
def binF.f (a0:List α) (a1:β):Option (Int×Bool):=(binF.l0 cmp a0 a1 0 (a0.length:Int))>>=fun x2130=>((if(decide (x2130<(a0.length:Int)))=true then((at? a0 x2130)>>=fun b2138=>(cmp b2138 a1)>>=fun t2141=>some (t2141==(0:Int))) else(some false)):Option (Bool))>>=fun x2143=>some (x2130,x2143)
end Defs
variable {α β:Type} {cmp:α→β→Option Int}
theorem half_eq {i j:Nat} (h:i+j<4611686018427387904):IntKind.i64.wrap (Int.fdiv (IntKind.u64.wrap (IntKind.i64.wrap ((i:Int)+(j:Int)))) 2)=(((i+j) / 2:Nat):Int):=by
 rw[Z0b (n:=(i:Int)+j) (by omega) (by omega),Z9z (by omega) (by omega)];have:Int.fdiv ((i:Int)+j) 2=(((i+j) / 2:Nat):Int):=by
  rw[Int.fdiv_eq_ediv_of_nonneg _ (by omega)];omega
 rw[this,Z0b (by omega) (by omega)]
structure Found (c:α→Int) (l:List α) (k:Nat):Prop where
 le:k≤l.length
 lo:∀ m x,m<k→l[m]? = some x→c x<0
 hi:∀ m x,k≤m→l[m]? = some x→0≤c x
theorem bin_l0 {t:β} {c:α→Int} (hc:∀ x,cmp x t=some (c x)) (l:List α) (hl:l.length<1000000000) (hm:∀ (i j:Nat) (x y:α),i≤j→l[i]? = some x→l[j]? = some y→c y<0→c x<0):∀ (n i j:Nat),j-i≤n→i≤j→j≤l.length →
  (∀ k x,k<i→l[k]? = some x→c x<0)→(∀ k x,j≤k→l[k]? = some x→0≤c x)→∃ k:Nat,binF.l0 cmp l t (i:Int) (j:Int)=some (k:Int)∧Found c l k:=by
 intro n
 induction n with
 | zero =>
  intro i j h1 h2 h3 h4 h5;rw[binF.l0,if_neg (by simp;omega)];exact⟨i,rfl,by omega,h4,fun m x hm=>h5 m x (by omega)⟩
 | succ n ih =>
  intro i j h1 h2 h3 h4 h5;by_cases hij:i<j
  case neg =>
   rw[binF.l0,if_neg (by simp;omega)];exact⟨i,rfl,by omega,h4,fun m x hm=>h5 m x (by omega)⟩
  have hh:(i+j) / 2<l.length:=by omega
  have hx:l[(i+j) / 2]? = some l[(i+j) / 2]:=List.getElem?_eq_getElem hh;rw[binF.l0,if_pos (by simp;omega),half_eq (by omega),at_nat rfl hx,sb,hc,sb];by_cases hlt:c l[(i+j) / 2]<0
  ·rw[if_pos (by simpa using hlt),sb,Z0b    (by omega) (by omega)]
   exact ih ((i+j) / 2+1) j (by omega) (by omega) h3 (fun k x hk hx'=>hm k _ x _ (by omega) hx' hx hlt) h5
  ·rw[if_neg (by simpa using hlt),sb]
   exact ih i ((i+j) / 2) (by omega) (by omega) (by omega) h4 (fun k x hk hx'=>by
    exact Int.not_lt.1 (fun q=>hlt (hm _ k _ x hk hx hx' q)))
theorem binF_eq {t:β} {c:α→Int} (hc:∀ x,cmp x t=some (c x)) (l:List α) (hl:l.length<1000000000) (hm:∀ (i j:Nat) (x y:α),i≤j→l[i]? = some x→l[j]? = some y→c y<0→c x<0):∃ (k:Nat) (b:Bool),Found c l k∧(b=true↔∃ x,l[k]? = some x∧c x=0)∧binF.f cmp l t=some ((k:Int),b):=by
 obtain⟨k,e,h⟩:=bin_l0 hc l hl hm l.length 0 l.length (by omega) (by omega) (Nat.le_refl _) (fun k x hk=>by omega) (fun k x hk hx=>by rw[List.getElem?_eq_none hk] at hx;exact absurd hx (by simp));by_cases hk:k<l.length
 ·refine⟨k,c l[k]==0,h,?_,?_⟩
  ·rw[List.getElem?_eq_getElem hk];simp
  ·unfold binF.f
   rw[show(0:Int)=((0:Nat):Int) from rfl,e,sb,if_pos (by simp;omega),at_nat rfl (List.getElem?_eq_getElem hk),sb,hc,sb,sb]
 ·refine⟨k,false,h,?_,?_⟩
  ·rw[List.getElem?_eq_none (by omega)];simp
  ·unfold binF.f
   rw[show(0:Int)=((0:Nat):Int) from rfl,e,sb,if_neg (by simp;omega),sb]
end Go.Pv.GS
