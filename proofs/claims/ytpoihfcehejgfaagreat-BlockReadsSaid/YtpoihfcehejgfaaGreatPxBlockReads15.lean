import Derived.Test.YtpoihfcehejgfaaGreatPxBlockReads14
set_option linter.unusedVariables false
set_option linter.unusedSimpArgs false
set_option maxRecDepth 100000
namespace Go.Pv
def Z69 (x:Int):List Bool:=(List.range 8).map fun k=>x.toNat.testBit (7-k)
theorem Z8a (x:Int):(Z69 x).length=8:=by simp[Z69]
def Byte (x:Int):Prop:=0≤x∧x<256
def Zbo (b:Int) (f:Nat):Int:=IntKind.u8.wrap (((BitVec.ofInt 8 b ||| BitVec.ofInt 8 (IntKind.u8.wrap (1*2 ^ (min f 8)))).toNat:Nat):Int)
def getBit (b:Int) (f:Nat):Int:=IntKind.u8.wrap (((BitVec.ofInt 8 (Int.fdiv b (2 ^ (min f 8))) &&& BitVec.ofInt 8 1).toNat:Nat):Int)
theorem orBit_all:∀ b:Fin 256,∀ f:Fin 8,(Z69 (b.1:Int)).drop (7-f.1)=List.replicate (f.1+1) false →
  (0≤Zbo (b.1:Int) f.1∧Zbo (b.1:Int) f.1<256)∧Z69 (Zbo (b.1:Int) f.1)=(Z69 (b.1:Int)).take (7-f.1)++true::List.replicate f.1 false:=by decide +kernel
theorem orBit_eq {b:Int} (hb:Byte b) {f:Nat} (hf:f<8) (h:(Z69 b).drop (7-f)=List.replicate (f+1) false) :
  Byte (Zbo b f)∧Z69 (Zbo b f)=(Z69 b).take (7-f)++true::List.replicate f false:=by
 have:=orBit_all ⟨b.toNat,by have:=hb.1;have:=hb.2;omega⟩ ⟨f,hf⟩;simp only[Int.toNat_of_nonneg hb.1] at this;exact this h
theorem getBit_all:∀ b:Fin 256,∀ f:Fin 8,(Z69 (b.1:Int))[7-f.1]? = some (getBit (b.1:Int) f.1==1):=by decide +kernel
theorem getBit_eq {b:Int} (hb:Byte b) {f:Nat} (hf:f<8):(Z69 b)[7-f]? = some (getBit b f==1):=by
 have:=getBit_all ⟨b.toNat,by have:=hb.1;have:=hb.2;omega⟩ ⟨f,hf⟩;simpa only [Int.toNat_of_nonneg hb.1] using this
def nb (n:Nat):Nat→List Bool
 | 0=>[]
 | k+1=>n.testBit k::nb n k
theorem Z5e (n k:Nat):(nb n k).length=k:=by induction k with | zero=>rfl | succ k ih=>rw[nb,List.length_cons,ih]
theorem nb_snoc (n k:Nat):nb n (k+1)=nb (n / 2) k++[decide (n % 2=1)]:=by
 induction k with
 | zero=>simp[nb,Nat.testBit_zero]
 | succ k ih=>rw[nb,ih,nb,List.cons_append,Nat.testBit_succ]
def val (s:List Bool):Nat:=s.foldl (fun v b=>2*v+b.toNat) 0
theorem Zcs (s:List Bool) (b:Bool):val (s++[b])=2*val s+b.toNat:=by simp[val]
theorem val_lt (s:List Bool):val s<2 ^ s.length:=by
 rcases List.eq_nil_or_concat s with rfl | ⟨s',b,rfl⟩
 ·simp[val]
 ·rw[List.concat_eq_append,Zcs     ,List.length_append,List.length_singleton,Nat.pow_succ]
  have:=val_lt s';have:b.toNat≤1:=by cases b<;>decide
  omega
termination_by s.length
decreasing_by subst s;simp
theorem nb_val (s:List Bool):nb (val s) s.length=s:=by
 rcases List.eq_nil_or_concat s with rfl | ⟨s',b,rfl⟩
 ·rfl
 ·rw[List.concat_eq_append,List.length_append,List.length_singleton,nb_snoc,Zcs     ]
  have hb:b.toNat≤1:=by cases b<;>decide
  rw[show(2*val s'+b.toNat) / 2=val s' by omega,nb_val s'];congr 1;cases b<;>simp<;>omega
termination_by s.length
decreasing_by subst s;simp
theorem val_nb (n k:Nat):val (nb n k)=n % 2 ^ k:=by
 induction k generalizing n with
 | zero=>simp[nb,val,Nat.mod_one]
 | succ k ih =>
  rw[nb_snoc,Zcs,ih,Nat.pow_succ,Nat.mul_comm (2 ^ k) 2,Nat.mod_mul];have:(decide (n % 2=1)).toNat=n % 2:=by
   rcases Nat.mod_two_eq_zero_or_one n with h | h<;>simp[h]
  omega
theorem bits8_nb (x:Int):Z69 x=nb x.toNat 8:=by simp[Z69,nb,List.range,List.range.loop]
theorem bits8_inj {a b:Int} (ha:Byte a) (hb:Byte b) (h:Z69 a=Z69 b):a=b:=by
 have:=congrArg val h;rw[bits8_nb,bits8_nb,val_nb,val_nb] at this;have:=ha.1;have:=ha.2;have:=hb.1;have:=hb.2;omega
def Z12 (l:List Int):List Bool:=l.flatMap Z69
theorem Z2j (l:List Int):(Z12 l).length=8*l.length:=by
 induction l with
 | nil=>rfl
 | cons x l ih=>rw[Z12,List.flatMap_cons,List.length_append,Z8a];unfold Z12 at ih;rw[ih,List.length_cons];omega
theorem Z65 (a b:List Int):Z12 (a++b)=Z12 a++Z12 b:=by simp[Z12]
theorem Z8t (x:Int) (l:List Int):Z12 (x::l)=Z69 x++Z12 l:=by simp[Z12]
theorem Zf9:∀ {a b:List Int},(∀ x∈a,Byte x)→(∀ x∈b,Byte x)→Z12 a=Z12 b→a=b
 | [],[],_,_,_=>rfl
 | [],y::b,_,_,h=>by have:=congrArg List.length h;rw[Z2j,Z2j] at this;simp at this
 | x::a,[],_,_,h=>by have:=congrArg List.length h;rw[Z2j,Z2j] at this;simp at this
 | x::a,y::b,ha,hb,h=>by
  rw[Z8t,Z8t] at h;obtain⟨h1,h2⟩:=List.append_inj h (by rw[Z8a,Z8a]);rw[bits8_inj (ha x (by simp)) (hb y (by simp)) h1,Zf9 (fun z hz=>ha z (by simp[hz])) (fun z hz=>hb z (by simp[hz])) h2]
structure Laid (b:List Int) (free:Nat) (s:List Bool):Prop where
 byte:∀ x∈b,Byte x
 lt:free<8
 bits:Z12 b=s++List.replicate free false
theorem Laid.nil:Laid [] 0 []:=⟨by simp,by omega,rfl⟩
theorem Laid.len {b:List Int} {f:Nat} {s:List Bool} (h:Laid b f s):8*b.length=s.length+f:=by
 have:=congrArg List.length h.bits;rw[Z2j] at this;simpa using this
theorem Laid.unique {b c:List Int} {f g:Nat} {s:List Bool} (h:Laid b f s) (k:Laid c g s):b=c:=by
 have e:f=g:=by have:=h.len;have:=k.len;have:=h.lt;have:=k.lt;omega
 subst e;exact Zf9 h.byte k.byte (h.bits.trans k.bits.symm)
theorem Laid.new0 {b:List Int} {s:List Bool} (h:Laid b 0 s):Laid (b++[0]) 7 (s++[false]) :=
 ⟨fun x hx=>by rcases List.mem_append.1 hx with hx | hx;exact h.byte x hx;simp at hx;subst hx;exact⟨by omega,by omega⟩,by omega,by
  rw[Z65,h.bits];simp[Z12];decide⟩
theorem Laid.old0 {b:List Int} {f:Nat} {s:List Bool} (h:Laid b (f+1) s):Laid b f (s++[false]) :=
 ⟨h.byte,by have:=h.lt;omega,by rw[h.bits,List.append_assoc,List.singleton_append,← List.replicate_succ]⟩
theorem Laid.set1 {b:List Int} {x:Int} {f:Nat} {s:List Bool} (h:Laid (b++[x]) f (s++[false])):Laid (b++[Zbo x f]) f (s++[true]):=by
 have hx:Byte x:=h.byte x (by simp);have hl:=h.len;have hf:=h.lt;simp only[List.length_append,List.length_singleton] at hl;have hb:=h.bits;rw[Z65,List.append_assoc,List.singleton_append,← List.replicate_succ] at hb;rw[show Z12 [x]=Z69 x by simp[Z12]] at hb;have hbl:=Z2j b;have e1:Z69 x=s.drop (8*b.length)++List.replicate (f+1) false:=by
  have:=congrArg (List.drop (8*b.length)) hb;rw[List.drop_append_of_le_length (by omega),List.drop_of_length_le (by omega),List.nil_append,List.drop_append_of_le_length (by omega)] at this;exact this
 have e2:Z12 b=s.take (8*b.length):=by
  have:=congrArg (List.take (8*b.length)) hb;rw[List.take_append_of_le_length (by omega),List.take_of_length_le (by omega),List.take_append_of_le_length (by omega)] at this;exact this
 have hd:(s.drop (8*b.length)).length=7-f:=by rw[List.length_drop];omega
 have e3:(Z69 x).drop (7-f)=List.replicate (f+1) false:=by rw[e1,← hd,List.drop_left]
 have e4:(Z69 x).take (7-f)=s.drop (8*b.length):=by rw[e1,← hd,List.take_left]
 obtain⟨g1,g2⟩:=orBit_eq hx hf e3;refine⟨fun y hy => ?_,hf,?_⟩
 ·rcases List.mem_append.1 hy with hy | hy
  ·exact h.byte y (by simp[hy])
  ·simp at hy;subst hy;exact g1
 ·rw[Z65,show Z12 [Zbo x f]=Z69 (Zbo x f) by simp[Z12],g2,e4,e2,← List.append_assoc,List.take_append_drop];simp
theorem bit_and {n:Int} (h0:0≤n) (h1:n<18446744073709551616) (i:Nat) (hi:i<64) :
  (IntKind.u64.wrap (((BitVec.ofInt 64 (Int.fdiv n (2 ^ (min i 64))) &&& BitVec.ofInt 64 1).toNat:Nat):Int)==1)=n.toNat.testBit i:=by
 obtain⟨m,rfl⟩:=Int.eq_ofNat_of_zero_le h0;have e:Int.fdiv (m:Int) (2 ^ (min i 64))=((m / 2 ^ i:Nat):Int):=by
  rw[Nat.min_eq_left (by omega),Int.fdiv_eq_ediv_of_nonneg _ (by exact_mod_cast Nat.zero_le (2 ^ i))];push_cast;rfl
 have hm:m / 2 ^ i<2 ^ 64:=Nat.lt_of_le_of_lt (Nat.div_le_self ..) (by omega);rw[e,BitVec.toNat_and,BitVec.ofInt_natCast,BitVec.toNat_ofNat,Nat.mod_eq_of_lt hm,show(BitVec.ofInt 64 1).toNat=1 by decide,Nat.and_one_is_mod,Z2l (by omega) (by omega)];rw[Int.toNat_natCast,Nat.testBit_eq_decide_div_mod_eq];generalize m / 2 ^ i=q;rcases Nat.mod_two_eq_zero_or_one q with h | h<;>simp[h]
theorem or_one {n:Int} (h0:0≤n) (h1:2*n+1<18446744073709551616):IntKind.u64.wrap (((BitVec.ofInt 64 (IntKind.u64.wrap (n*2)) ||| BitVec.ofInt 64 1).toNat:Nat):Int)=2*n+1:=by
 obtain⟨m,rfl⟩:=Int.eq_ofNat_of_zero_le h0;have hm:2*m<2 ^ 64:=by omega
 rw[Z2l (n:=(m:Int)*2) (by omega) (by omega),show(m:Int)*2=((2*m:Nat):Int) by omega,BitVec.toNat_or,BitVec.ofInt_natCast,BitVec.toNat_ofNat,Nat.mod_eq_of_lt hm,show(BitVec.ofInt 64 1).toNat=1 by decide];have:=Nat.two_pow_add_eq_or_of_lt (i:=1) (b:=1) (by omega) m;rw[show 2 ^ 1*m=2*m by omega] at this;rw[← this,Z2l (by omega) (by omega)];omega
theorem addBit_all:∀ b:Fin 256,∀ f:Fin 8,(Z69 (b.1:Int)).drop (7-f.1)=List.replicate (f.1+1) false →
  IntKind.u8.wrap ((b.1:Int)+IntKind.u8.wrap (2 ^ f.1))=Zbo (b.1:Int) f.1:=by decide +kernel
def strB (s:List Bool):ByteArray:=⟨(s.map fun b=>if b then(49:UInt8) else 48).toArray⟩
theorem strB_nil:strB []=(⟨#[]⟩:ByteArray):=rfl
theorem Zv (s:List Bool):(strB s).size=s.length:=by simp[strB,ByteArray.size]
theorem L_strB (s:List Bool):L (strB s)=s.map fun b=>if b then(49:UInt8) else 48:=by simp[strB]
theorem Z0q (a b:List Bool):strB (a++b)=strB a++strB b:=ext_L (by rw[L_append,L_strB,L_strB,L_strB,List.map_append])
theorem strB_bt {s:List Bool} {i:Nat} {b:Bool} (h:s[i]? = some b):(bt (strB s) (i:Int)==49)=b:=by
 rw[bt_L (c:=if b then(49:UInt8) else 48) (by rw[L_strB,List.getElem?_map,h];rfl)];cases b<;>decide
end Go.Pv
namespace Go.Pv.GS
section Defs
variable {α β:Type} (cmp:α→β→Option Int)
def binF.l0 (a0:List α) (a1:β) (x2114 x2115:Int):Option (Int):=if(decide (x2114<x2115))=true then((at? a0 (IntKind.i64.wrap (Int.fdiv (IntKind.u64.wrap (IntKind.i64.wrap (x2114+x2115))) 2)))>>=fun b2122=>(cmp b2122 a1)>>=fun t2125=>((if(decide (t2125<(0:Int)))=true then(some (IntKind.i64.wrap ((IntKind.i64.wrap (Int.fdiv (IntKind.u64.wrap (IntKind.i64.wrap (x2114+x2115))) 2))+(1:Int)),x2115)) else(some (x2114,IntKind.i64.wrap (Int.fdiv (IntKind.u64.wrap (IntKind.i64.wrap (x2114+x2115))) 2)))):Option (Int×Int))>>=fun oo=>match oo with | (x2128,x2129)=>(binF.l0 a0 a1 x2128 x2129)) else(some x2114)
partial_fixpoint
def binF.f (a0:List α) (a1:β):Option (Int×Bool):=(binF.l0 cmp a0 a1 0 (a0.length:Int))>>=fun x2130=>((if(decide (x2130<(a0.length:Int)))=true then((at? a0 x2130)>>=fun b2138=>(cmp b2138 a1)>>=fun t2141=>some (t2141==(0:Int))) else(some false)):Option (Bool))>>=fun x2143=>some (x2130,x2143)
end Defs
variable {α β:Type} {cmp:α→β→Option Int}
theorem half_eq {i j:Nat} (h:i+j<4611686018427387904):IntKind.i64.wrap (Int.fdiv (IntKind.u64.wrap (IntKind.i64.wrap ((i:Int)+(j:Int)))) 2)=(((i+j) / 2:Nat):Int):=by
 rw[Z8 (n:=(i:Int)+j) (by omega) (by omega),Z2l (by omega) (by omega)];have:Int.fdiv ((i:Int)+j) 2=(((i+j) / 2:Nat):Int):=by
  rw[Int.fdiv_eq_ediv_of_nonneg _ (by omega)];omega
 rw[this,Z8 (by omega) (by omega)]
structure Found (c:α→Int) (l:List α) (k:Nat):Prop where
 le:k≤l.length
 lo:∀ m x,m<k→l[m]? = some x→c x<0
 hi:∀ m x,k≤m→l[m]? = some x→0≤c x
end Go.Pv.GS
