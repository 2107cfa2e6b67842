import Derived.Test.YtpoihfcehejgfaaGreatPxBlockMakes09
set_option linter.unusedVariables false
set_option linter.unusedSimpArgs false
namespace Go.Pv.GS
section Defs
variable {α:Type} (cmp:α→α→Option Int)
def insertionSort.l1 (a1 a2 x0:Int) (x1:List α) (x2:Int):Option (List α):=((if(decide (x2>a1))=true then((at? x1 x2)>>=fun b3=>(at? x1 (IntKind.i64.wrap (x2-(1:Int))))>>=fun b4=>(cmp b3 b4)>>=fun t5=>some (decide (t5<(0:Int)))) else(some false)):Option (Bool))>>=fun x6=>if x6=true then((at? x1 (IntKind.i64.wrap (x2-(1:Int))))>>=fun b7=>(at? x1 x2)>>=fun b8=>(at? (x1.set (Int.toNat (x2)) b7) (IntKind.i64.wrap (x2-(1:Int))))>>=fun b9=>insertionSort.l1 a1 a2 x0 ((x1.set (Int.toNat (x2)) b7).set (Int.toNat (IntKind.i64.wrap (x2-(1:Int)))) b8) (IntKind.i64.wrap (x2-(1:Int)))) else(some x1)
partial_fixpoint
def insertionSort.l0 (a1 a2:Int) (x0:List α) (x1:Int):Option (List α):=if(decide (x1<a2))=true then((insertionSort.l1 cmp a1 a2 x1 x0 x1)>>=fun x2=>insertionSort.l0 a1 a2 x2 (IntKind.i64.wrap (x1+(1:Int)))) else(some x0)
partial_fixpoint
def insertionSort.f (a0:List α) (a1 a2:Int):Option (List α):=(insertionSort.l0 cmp a1 a2 a0 (IntKind.i64.wrap (a1+(1:Int))))>>=fun x0=>some x0
def swapRange.l0 (a1 a2 a3:Int) (x0:List α) (x1:Int):Option (List α):=if(decide (x1<a3))=true then((at? x0 (IntKind.i64.wrap (a2+x1)))>>=fun b2=>(at? x0 (IntKind.i64.wrap (a1+x1)))>>=fun b3=>(at? (x0.set (Int.toNat (IntKind.i64.wrap (a1+x1))) b2) (IntKind.i64.wrap (a2+x1)))>>=fun b4=>swapRange.l0 a1 a2 a3 ((x0.set (Int.toNat (IntKind.i64.wrap (a1+x1))) b2).set (Int.toNat (IntKind.i64.wrap (a2+x1))) b3) (IntKind.i64.wrap (x1+(1:Int)))) else(some x0)
partial_fixpoint
def swapRange.f (a0:List α) (a1 a2 a3:Int):Option (List α):=(swapRange.l0 a1 a2 a3 a0 0)>>=fun x0=>some x0
def rotate.l0 (a2:Int) (x0:List α) (x1 x2:Int):Option ((List α)×Int):=if(x1 != x2)=true then(((if(decide (x1>x2))=true then((swapRange.f x0 (IntKind.i64.wrap (a2-x1)) a2 x2)>>=fun t3=>some (t3,IntKind.i64.wrap (x1-x2),x2)) else((swapRange.f x0 (IntKind.i64.wrap (a2-x1)) (IntKind.i64.wrap ((IntKind.i64.wrap (a2+x2))-x1)) x1)>>=fun t4=>some (t4,x1,IntKind.i64.wrap (x2-x1)))):Option ((List α)×Int×Int))>>=fun oo=>match oo with | (x5,x6,x7)=>(rotate.l0 a2 x5 x6 x7)) else(some (x0,x1))
partial_fixpoint
def rotate.f (a0:List α) (a1 a2 a3:Int):Option (List α):=(rotate.l0 a2 a0 (IntKind.i64.wrap (a2-a1)) (IntKind.i64.wrap (a3-a2)))>>=fun oo=>match oo with | (x0,x1)=>((swapRange.f x0 (IntKind.i64.wrap (a2-x1)) a2 x1)>>=fun t2=>some t2)
def symMerge.l0 (a0:List α) (a1 x0 x1:Int):Option (Int):=if(decide (x0<x1))=true then((at? a0 (IntKind.i64.wrap (Int.fdiv (IntKind.u64.wrap (IntKind.i64.wrap (x0+x1))) 2)))>>=fun b2=>(at? a0 a1)>>=fun b3=>(cmp b2 b3)>>=fun t4=>((if(decide (t4<(0:Int)))=true then(some (IntKind.i64.wrap ((IntKind.i64.wrap (Int.fdiv (IntKind.u64.wrap (IntKind.i64.wrap (x0+x1))) 2))+(1:Int)),x1)) else(some (x0,IntKind.i64.wrap (Int.fdiv (IntKind.u64.wrap (IntKind.i64.wrap (x0+x1))) 2)))):Option (Int×Int))>>=fun oo=>match oo with | (x5,x6)=>(symMerge.l0 a0 a1 x5 x6)) else(some x0)
partial_fixpoint
def symMerge.l1 (x0:Int) (x1:List α) (x2:Int):Option (List α):=if(decide (x2<(IntKind.i64.wrap (x0-(1:Int)))))=true then((at? x1 (IntKind.i64.wrap (x2+(1:Int))))>>=fun b3=>(at? x1 x2)>>=fun b4=>(at? (x1.set (Int.toNat (x2)) b3) (IntKind.i64.wrap (x2+(1:Int))))>>=fun b5=>symMerge.l1 x0 ((x1.set (Int.toNat (x2)) b3).set (Int.toNat (IntKind.i64.wrap (x2+(1:Int)))) b4) (IntKind.i64.wrap (x2+(1:Int)))) else(some x1)
partial_fixpoint
def symMerge.l2 (a0:List α) (a2 x0 x1:Int):Option (Int):=if(decide (x0<x1))=true then((at? a0 a2)>>=fun b2=>(at? a0 (IntKind.i64.wrap (Int.fdiv (IntKind.u64.wrap (IntKind.i64.wrap (x0+x1))) 2)))>>=fun b3=>(cmp b2 b3)>>=fun t4=>((if(!(decide (t4<(0:Int))))=true then(some (IntKind.i64.wrap ((IntKind.i64.wrap (Int.fdiv (IntKind.u64.wrap (IntKind.i64.wrap (x0+x1))) 2))+(1:Int)),x1)) else(some (x0,IntKind.i64.wrap (Int.fdiv (IntKind.u64.wrap (IntKind.i64.wrap (x0+x1))) 2)))):Option (Int×Int))>>=fun oo=>match oo with | (x5,x6)=>(symMerge.l2 a0 a2 x5 x6)) else(some x0)
partial_fixpoint
def symMerge.l3 (x0:Int) (x1:List α) (x2:Int):Option (List α):=if(decide (x2>x0))=true then((at? x1 (IntKind.i64.wrap (x2-(1:Int))))>>=fun b3=>(at? x1 x2)>>=fun b4=>(at? (x1.set (Int.toNat (x2)) b3) (IntKind.i64.wrap (x2-(1:Int))))>>=fun b5=>symMerge.l3 x0 ((x1.set (Int.toNat (x2)) b3).set (Int.toNat (IntKind.i64.wrap (x2-(1:Int)))) b4) (IntKind.i64.wrap (x2-(1:Int)))) else(some x1)
partial_fixpoint
def symMerge.l4 (a0:List α) (a1 a2 a3 x0 x1:Int):Option (Int):=if(decide (x0<x1))=true then((at? a0 (IntKind.i64.wrap ((IntKind.i64.wrap ((IntKind.i64.wrap ((IntKind.i64.wrap (Int.fdiv (IntKind.u64.wrap (IntKind.i64.wrap (a1+a3))) 2))+a2))-(1:Int)))-(IntKind.i64.wrap (Int.fdiv (IntKind.u64.wrap (IntKind.i64.wrap (x0+x1))) 2)))))>>=fun b2=>(at? a0 (IntKind.i64.wrap (Int.fdiv (IntKind.u64.wrap (IntKind.i64.wrap (x0+x1))) 2)))>>=fun b3=>(cmp b2 b3)>>=fun t4=>((if(!(decide (t4<(0:Int))))=true then(some (IntKind.i64.wrap ((IntKind.i64.wrap (Int.fdiv (IntKind.u64.wrap (IntKind.i64.wrap (x0+x1))) 2))+(1:Int)),x1)) else(some (x0,IntKind.i64.wrap (Int.fdiv (IntKind.u64.wrap (IntKind.i64.wrap (x0+x1))) 2)))):Option (Int×Int))>>=fun oo=>match oo with | (x5,x6)=>(symMerge.l4 a0 a1 a2 a3 x5 x6)) else(some x0)
partial_fixpoint
def symMerge.f (a0:List α) (a1 a2 a3:Int):Option (List α):=if((IntKind.i64.wrap (a2-a1))==(1:Int))=true then((symMerge.l0 cmp a0 a1 a2 a3)>>=fun x0=>(symMerge.l1 x0 a0 a1)>>=fun x1=>some x1) else(if((IntKind.i64.wrap (a3-a2))==(1:Int))=true then((symMerge.l2 cmp a0 a2 a1 a2)>>=fun x2=>(symMerge.l3 x2 a0 a2)>>=fun x3=>some x3) else(((if(decide (a2>(IntKind.i64.wrap (Int.fdiv (IntKind.u64.wrap (IntKind.i64.wrap (a1+a3))) 2))))=true then(some (IntKind.i64.wrap ((IntKind.i64.wrap ((IntKind.i64.wrap (Int.fdiv (IntKind.u64.wrap (IntKind.i64.wrap (a1+a3))) 2))+a2))-a3),IntKind.i64.wrap (Int.fdiv (IntKind.u64.wrap (IntKind.i64.wrap (a1+a3))) 2))) else(some (a1,a2))):Option (Int×Int))>>=fun oo=>match oo with | (x4,x5)=>((symMerge.l4 cmp a0 a1 a2 a3 x4 x5)>>=fun x6=>((if(decide (x6<a2))=true then(some (decide (a2<(IntKind.i64.wrap ((IntKind.i64.wrap ((IntKind.i64.wrap (Int.fdiv (IntKind.u64.wrap (IntKind.i64.wrap (a1+a3))) 2))+a2))-x6))))) else(some false)):Option (Bool))>>=fun x7=>((if x7=true then((rotate.f a0 x6 a2 (IntKind.i64.wrap ((IntKind.i64.wrap ((IntKind.i64.wrap (Int.fdiv (IntKind.u64.wrap (IntKind.i64.wrap (a1+a3))) 2))+a2))-x6)))>>=fun t8=>some t8) else(some a0)):Option (List α))>>=fun x9=>((if(decide (a1<x6))=true then(some (decide (x6<(IntKind.i64.wrap (Int.fdiv (IntKind.u64.wrap (IntKind.i64.wrap (a1+a3))) 2))))) else(some false)):Option (Bool))>>=fun x10=>((if x10=true then((symMerge.f x9 a1 x6 (IntKind.i64.wrap (Int.fdiv (IntKind.u64.wrap (IntKind.i64.wrap (a1+a3))) 2)))>>=fun t11=>some t11) else(some x9)):Option (List α))>>=fun x12=>((if(decide ((IntKind.i64.wrap (Int.fdiv (IntKind.u64.wrap (IntKind.i64.wrap (a1+a3))) 2))<(IntKind.i64.wrap ((IntKind.i64.wrap ((IntKind.i64.wrap (Int.fdiv (IntKind.u64.wrap (IntKind.i64.wrap (a1+a3))) 2))+a2))-x6))))=true then(some (decide ((IntKind.i64.wrap ((IntKind.i64.wrap ((IntKind.i64.wrap (Int.fdiv (IntKind.u64.wrap (IntKind.i64.wrap (a1+a3))) 2))+a2))-x6))<a3))) else(some false)):Option (Bool))>>=fun x13=>((if x13=true then((symMerge.f x12 (IntKind.i64.wrap (Int.fdiv (IntKind.u64.wrap (IntKind.i64.wrap (a1+a3))) 2)) (IntKind.i64.wrap ((IntKind.i64.wrap ((IntKind.i64.wrap (Int.fdiv (IntKind.u64.wrap (IntKind.i64.wrap (a1+a3))) 2))+a2))-x6)) a3)>>=fun t14=>some t14) else(some x12)):Option (List α))>>=fun x15=>some x15)))
partial_fixpoint
def stable.l0 (a1:Int) (x0:List α) (x1 x2:Int):Option ((List α)×Int):=if(decide (x2≤a1))=true then((insertionSort.f cmp x0 x1 x2)>>=fun t3=>stable.l0 a1 t3 x2 (IntKind.i64.wrap (x2+(20:Int)))) else(some (x0,x1))
partial_fixpoint
def stable.l2 (a1 x0:Int) (x1:List α) (x2 x3:Int):Option ((List α)×Int):=if(decide (x3≤a1))=true then((symMerge.f cmp x1 x2 (IntKind.i64.wrap (x2+x0)) x3)>>=fun t4=>stable.l2 a1 x0 t4 x3 (IntKind.i64.wrap (x3+(IntKind.i64.wrap ((2:Int)*x0))))) else(some (x1,x2))
partial_fixpoint
def stable.l1 (a1:Int) (x0:List α) (x1:Int):Option (List α):=if(decide (x1<a1))=true then((stable.l2 cmp a1 x1 x0 0 (IntKind.i64.wrap ((2:Int)*x1)))>>=fun oo=>match oo with | (x2,x3)=>(((if(decide ((IntKind.i64.wrap (x3+x1))<a1))=true then((symMerge.f cmp x2 x3 (IntKind.i64.wrap (x3+x1)) a1)>>=fun t4=>some t4) else(some x2)):Option (List α))>>=fun x5=>stable.l1 a1 x5 (IntKind.i64.wrap (x1*(2:Int))))) else(some x0)
partial_fixpoint
def stable.f (a0:List α) (a1:Int):Option (List α):=(stable.l0 cmp a1 a0 0 20)>>=fun oo=>match oo with | (x0,x1)=>((insertionSort.f cmp x0 x1 a1)>>=fun t2=>(stable.l1 cmp a1 t2 20)>>=fun x3=>some x3)
def SortStable.f (a0:List α):Option (List α):=(stable.f cmp a0 (a0.length:Int))>>=fun t0=>some t0
end Defs
theorem snocRec {α:Type} {motive:List α→Prop} (nil:motive []) (snoc:∀ (l:List α) (x:α),motive l→motive (l++[x])) (l:List α):motive l:=by
 have:∀ n (l:List α),l.length=n→motive l:=by
  intro n
  induction n with
  | zero=>intro l h;rw[List.length_eq_zero_iff.1 h];exact nil
  | succ n ih =>
   intro l h;rcases List.eq_nil_or_concat l with rfl | ⟨P,p,rfl⟩
   ·exact nil
   ·rw[List.concat_eq_append];exact snoc P p (ih P (by simp at h;omega))
 exact this _ l rfl
section Merge
variable {α:Type} (lt:α→α→Bool)
def mrg:List α→List α→List α
 | [],ys=>ys
 | x::xs,[]=>x::xs
 | x::xs,y::ys=>if lt y x=true then y::mrg (x::xs) ys else x::mrg xs (y::ys)
termination_by xs ys=>xs.length+ys.length
theorem Z47 (ys:List α):mrg lt [] ys=ys:=by rw[mrg]
theorem Z5s (xs:List α):mrg lt xs []=xs:=by cases xs<;>rw[mrg]
theorem mrg_cc (x:α) (xs:List α) (y:α) (ys:List α):mrg lt (x::xs) (y::ys)=if lt y x=true then y::mrg lt (x::xs) ys else x::mrg lt xs (y::ys):=by rw[mrg]
theorem Z7i {x y:α} (h:lt y x=true) (xs ys:List α):mrg lt (x::xs) (y::ys)=y::mrg lt (x::xs) ys:=by rw[mrg_cc,if_pos h]
theorem Z7j {x y:α} (h:lt y x=false) (xs ys:List α):mrg lt (x::xs) (y::ys)=x::mrg lt xs (y::ys):=by rw[mrg_cc,if_neg (by simp[h])]
structure SWO (lt:α→α→Bool):Prop where
 asymm:∀ a b,lt a b=true→lt b a=false
 trans:∀ a b c,lt b a=false→lt c b=false→lt c a=false
variable {lt}
theorem SWO.strict (h:SWO lt) {a b c:α} (h1:lt b a=true) (h2:lt c b=true):lt c a=true:=by
 cases e:lt c a with
 | true=>rfl
 | false=>rw[h.trans a c b e (h.asymm _ _ h2)] at h1;exact h1
abbrev Srt (lt:α→α→Bool) (l:List α):Prop:=l.Pairwise (fun a b=>lt b a=false)
theorem Z58:∀ (n:Nat) (X1 X2 Y1 Y2:List α),X1.length+Y1.length≤n→(∀ x∈X1,∀ y∈Y2,lt y x=false)→(∀ y∈Y1,∀ x∈X2,lt y x=true) →
  mrg lt (X1++X2) (Y1++Y2)=mrg lt X1 Y1++mrg lt X2 Y2:=by
 intro n
 induction n with
 | zero =>
  intro X1 X2 Y1 Y2 hn _ _;obtain rfl:X1=[]:=List.length_eq_zero_iff.1 (by omega);obtain rfl:Y1=[]:=List.length_eq_zero_iff.1 (by omega);simp[Z47]
 | succ n ih =>
  intro X1 X2 Y1 Y2 hn h1 h2;cases X1 with
  | nil =>
   cases Y1 with
   | nil=>simp[Z47]
   | cons y Y1 =>
    cases X2 with
    | nil=>simp[Z47]
    | cons x X2 =>
     have hyx:=h2 y (by simp) x (by simp);have:=ih [] (x::X2) Y1 Y2 (by simp at hn ⊢;omega) (by simp) (fun y hy=>h2 y (by simp[hy]));simp only[List.nil_append,List.cons_append,Z47] at this ⊢;rw[Z7i _ hyx,this]
  | cons x X1 =>
   cases Y1 with
   | nil =>
    cases Y2 with
    | nil=>simp[Z5s]
    | cons y Y2 =>
     have hyx:=h1 x (by simp) y (by simp);have:=ih X1 X2 [] (y::Y2) (by simp at hn ⊢;omega) (fun x hx=>h1 x (by simp[hx])) (by simp);simp only[List.nil_append,List.cons_append,Z5s] at this ⊢;rw[Z7j _ hyx,this]
   | cons y Y1 =>
    simp only[List.length_cons] at hn;simp only[List.cons_append];cases e:lt y x with
    | true =>
     have:=ih (x::X1) X2 Y1 Y2 (by simp;omega) h1 (fun y hy=>h2 y (by simp[hy]));simp only[List.cons_append] at this;rw[Z7i _ e,Z7i _ e,this,List.cons_append]
    | false =>
     have:=ih X1 X2 (y::Y1) Y2 (by simp;omega) (fun x hx=>h1 x (by simp[hx])) h2;simp only[List.cons_append] at this;rw[Z7j _ e,Z7j _ e,this,List.cons_append]
theorem mrg_assoc (h:SWO lt):∀ (n:Nat) (A B C:List α),A.length+B.length+C.length≤n→mrg lt A (mrg lt B C)=mrg lt (mrg lt A B) C:=by
 intro n
 induction n with
 | zero =>
  intro A B C hn;obtain rfl:A=[]:=List.length_eq_zero_iff.1 (by omega);simp[Z47]
 | succ n ih =>
  intro A B C hn;cases A with
  | nil=>simp[Z47]
  | cons a A =>
  cases B with
  | nil=>simp[Z47,Z5s]
  | cons b B =>
  cases C with
  | nil=>simp[Z5s]
  | cons c C =>
  simp only[List.length_cons] at hn;cases e1:lt b a with
  | true =>
   rw[Z7i (xs:=A) _ e1];cases e2:lt c b with
   | true =>
    have e3:=h.strict e1 e2;rw[Z7i (xs:=B) _ e2,Z7i _ e3,ih (a::A) (b::B) C (by simp;omega),Z7i _ e1,Z7i _ e2]
   | false =>
    rw[Z7j (xs:=B) _ e2,Z7i _ e1,ih (a::A) B (c::C) (by simp;omega),Z7j _ e2]
  | false =>
   rw[Z7j (ys:=B) _ e1];cases e2:lt c b with
   | true =>
    rw[Z7i (xs:=B) _ e2];cases e3:lt c a with
    | true =>
     rw[Z7i _ e3,Z7i _ e3,ih (a::A) (b::B) C (by simp;omega),Z7j _ e1]
    | false =>
     rw[Z7j _ e3,Z7j _ e3,← ih A (b::B) (c::C) (by simp;omega),Z7i _ e2]
   | false =>
    have e3:=h.trans _ _ _ e1 e2;rw[Z7j (xs:=B) _ e2,Z7j _ e1,Z7j _ e3,← ih A (b::B) (c::C) (by simp;omega),Z7j _ e2]
theorem mrg_perm:∀ (n:Nat) (X Y:List α),X.length+Y.length≤n→(mrg lt X Y).Perm (X++Y):=by
 intro n
 induction n with
 | zero =>
  intro X Y hn;obtain rfl:X=[]:=List.length_eq_zero_iff.1 (by omega);simp[Z47]
 | succ n ih =>
  intro X Y hn;cases X with
  | nil=>simp[Z47]
  | cons x X =>
  cases Y with
  | nil=>simp[Z5s]
  | cons y Y =>
  simp only[List.length_cons] at hn;cases e:lt y x with
  | true =>
   rw[Z7i _ e];have:=ih (x::X) Y (by simp;omega);exact((List.Perm.cons y this).trans (List.perm_middle (l₁:=x::X) (l₂:=Y)).symm)
  | false =>
   rw[Z7j _ e];have:=ih X (y::Y) (by simp;omega);exact List.Perm.cons x this
theorem mrg_len (X Y:List α):(mrg lt X Y).length=X.length+Y.length:=by
 rw[(mrg_perm _ X Y (Nat.le_refl _)).length_eq,List.length_append]
theorem mem_mrg {X Y:List α} {z:α}:z∈mrg lt X Y↔z∈X∨z∈Y:=by
 rw[(mrg_perm _ X Y (Nat.le_refl _)).mem_iff,List.mem_append]
theorem mrg_sorted (h:SWO lt):∀ (n:Nat) (X Y:List α),X.length+Y.length≤n→Srt lt X→Srt lt Y→Srt lt (mrg lt X Y):=by
 intro n
 induction n with
 | zero =>
  intro X Y hn _ hy;obtain rfl:X=[]:=List.length_eq_zero_iff.1 (by omega);rw[Z47];exact hy
 | succ n ih =>
  intro X Y hn hx hy;cases X with
  | nil=>rw[Z47];exact hy
  | cons x X =>
  cases Y with
  | nil=>rw[Z5s];exact hx
  | cons y Y =>
  simp only[List.length_cons] at hn;have hx':=List.pairwise_cons.1 hx;have hy':=List.pairwise_cons.1 hy;cases e:lt y x with
  | true =>
   rw[Z7i _ e];refine List.pairwise_cons.2 ⟨fun z hz => ?_,ih (x::X) Y (by simp;omega) hx hy'.2⟩;rcases mem_mrg.1 hz with hz | hz
   ·rcases List.mem_cons.1 hz with rfl | hz
    ·exact h.asymm _ _ e
    ·exact h.trans _ _ _ (h.asymm _ _ e) (hx'.1 z hz)
   ·exact hy'.1 z hz
  | false =>
   rw[Z7j _ e];refine List.pairwise_cons.2 ⟨fun z hz => ?_,ih X (y::Y) (by simp;omega) hx'.2 hy⟩;rcases mem_mrg.1 hz with hz | hz
   ·exact hx'.1 z hz
   ·rcases List.mem_cons.1 hz with rfl | hz
    ·exact e
    ·exact h.trans _ _ _ e (hy'.1 z hz)
def S (lt:α→α→Bool) (l:List α):List α:=l.foldl (fun acc x=>mrg lt acc [x]) []
theorem S_nil:S lt ([]:List α)=[]:=rfl
theorem Zbt (l:List α) (x:α):S lt (l++[x])=mrg lt (S lt l) [x]:=by simp[S]
theorem S_append (h:SWO lt) (l1:List α):∀ l2:List α,S lt (l1++l2)=mrg lt (S lt l1) (S lt l2):=by
 intro l2
 induction l2 using snocRec with
 | nil=>simp[S_nil,Z5s]
 | snoc l2 x ih=>rw[← List.append_assoc,Zbt,ih,Zbt,mrg_assoc h _ _ _ _ (Nat.le_refl _)]
theorem S_perm (l:List α):(S lt l).Perm l:=by
 induction l using snocRec with
 | nil=>exact List.Perm.refl _
 | snoc l x ih=>rw[Zbt];exact(mrg_perm _ _ _ (Nat.le_refl _)).trans (List.Perm.append ih (List.Perm.refl _))
theorem Z50 (l:List α):(S lt l).length=l.length:=(S_perm l).length_eq
theorem Z8e (h:SWO lt) (l:List α):Srt lt (S lt l):=by
 induction l using snocRec with
 | nil=>exact List.Pairwise.nil
 | snoc l x ih=>rw[Zbt];exact mrg_sorted h _ _ _ (Nat.le_refl _) ih (List.pairwise_singleton _ _)
theorem mrg_snoc_T {P:List α} {p x:α} (e:lt x p=true):mrg lt (P++[p]) [x]=mrg lt P [x]++[p]:=by
 have:=Z58 (lt:=lt) _ P [p] [x] [] (Nat.le_refl _) (by simp) (by simp[e]);simpa[Z5s] using this
theorem Zbd (h:SWO lt) {P:List α} {p x:α} (e:lt x p=false) (hs:Srt lt (P++[p])):mrg lt (P++[p]) [x]=P++[p]++[x]:=by
 have:=Z58 (lt:=lt) _ (P++[p]) [] [] [x] (Nat.le_refl _) (by
  intro q hq y hy;simp only[List.mem_singleton] at hy;subst hy;rcases List.mem_append.1 hq with hq | hq
  ·exact h.trans _ _ _ ((List.pairwise_append.1 hs).2.2 q hq p (by simp)) e
  ·simp only[List.mem_singleton] at hq;subst hq;exact e) (by simp)
 simpa[Z47,Z5s] using this
theorem S_of_sorted (h:SWO lt) (l:List α) (hs:Srt lt l):S lt l=l:=by
 induction l using snocRec with
 | nil=>rfl
 | snoc l x ih =>
  rw[Zbt,ih (List.pairwise_append.1 hs).1];rcases List.eq_nil_or_concat l with rfl | ⟨P,p,rfl⟩
  ·simp[Z47]
  ·simp only[List.concat_eq_append] at hs ⊢
   exact Zbd h ((List.pairwise_append.1 hs).2.2 p (by simp) x (by simp)) (List.pairwise_append.1 hs).1
end Merge
theorem Z5l {α β:Type} (A:List α) (x:α) (B:List α) {i:Int} (h:i=(A.length:Int)) (f:α→Option β):(at? (A++x::B) i>>=f)=f x:=by
 subst h;have:at? (A++x::B) (A.length:Int)=some x:=by unfold at?;rw[if_pos (by omega)];simp
 rw[this];rfl
theorem Z6c {α:Type} (A:List α) (x y:α) (B:List α) {n:Nat} (h:n=A.length):(A++x::B).set n y=A++y::B:=by
 subst h;simp
theorem mid64 {a b:Int} (h0:0≤a) (h1:0≤b) (h2:a+b<4611686018427387904):IntKind.i64.wrap (Int.fdiv (IntKind.u64.wrap (IntKind.i64.wrap (a+b))) 2)=(a+b) / 2:=by
 rw[Z0b (n:=a+b) (by omega) (by omega)];have:IntKind.u64.wrap (a+b)=a+b:=by
  simp only[IntKind.wrap,IntKind.signed,IntKind.bits];simp;omega
 rw[this,Int.fdiv_eq_ediv_of_nonneg _ (by omega),Z0b (by omega) (by omega)]
section Run
variable {α:Type} {cmp:α→α→Option Int} {lt:α→α→Bool}
abbrev Cmp (cmp:α→α→Option Int) (lt:α→α→Bool):Prop:=∀ a b,∃ c,cmp a b=some c∧decide (c<0)=lt a b
theorem ins_l1 (hc:Cmp cmp lt) (h:SWO lt) (A:List α) (x:α) (a1 a2 x0:Int) (ha:a1=(A.length:Int)):∀ (n:Nat) (P Q:List α) (j:Int),P.length=n→Srt lt P→j=((A.length+P.length:Nat):Int)→(A.length+P.length:Nat)<10000000000000000 →
  insertionSort.l1 cmp a1 a2 x0 (A++P++x::Q) j=some (A++mrg lt P [x]++Q):=by
 intro n
 induction n with
 | zero =>
  intro P Q j hn hs hj hb;obtain rfl:P=[]:=List.length_eq_zero_iff.1 hn;rw[insertionSort.l1,if_neg (by simp at hj ⊢;omega)];simp[Z47]
 | succ n ih =>
  intro P Q j hn hs hj hb;rcases List.eq_nil_or_concat P with rfl | ⟨P,p,rfl⟩
  ·simp at hn
  simp only[List.concat_eq_append] at *;simp only[List.length_append,List.length_singleton] at hn hj hb;have hw:IntKind.i64.wrap (j-1)=((A.length+P.length:Nat):Int):=by rw[Z0b (by omega) (by omega)];omega
  have e1:A++(P++[p])++x::Q=(A++P++[p])++x::Q:=by simp
  have e2:A++(P++[p])++x::Q=(A++P)++p::(x::Q):=by simp
  obtain⟨c,hcc,hcl⟩:=hc x p;have hj1:j=((A++P++[p]).length:Int):=by simp;omega
  rw[insertionSort.l1,hw,if_pos (by simp;omega)];rw[e1,Z5l _ _ _ hj1];rw[← e1,e2,Z5l _ _ _ (by simp),hcc,sb,hcl,sb];cases e:lt x p with
  | true =>
   rw[if_pos rfl,Z5l _ _ _ (by simp),← e2,e1,Z5l _ _ _ hj1,Z6c _ _ _ _ (by rw[hj1];simp;omega)];rw[show(A++P++[p]++p::Q)=(A++P)++p::(p::Q) by simp,Z5l _ _ _ (by simp),Z6c _ _ _ _ (by simp;omega)];rw[ih P (p::Q) _ (by omega) (List.pairwise_append.1 hs).1 rfl (by omega),mrg_snoc_T e];simp
  | false =>
   rw[if_neg (by simp),Zbd h e hs];simp
theorem ins_l0 (hc:Cmp cmp lt) (h:SWO lt) (A:List α) (a1:Int) (ha:a1=(A.length:Int)):∀ (T D B:List α) (a2 i:Int),i=((A.length+D.length:Nat):Int)→a2=((A.length+D.length+T.length:Nat):Int) →
  (A.length+D.length+T.length:Nat)<10000000000000000→insertionSort.l0 cmp a1 a2 (A++S lt D++T++B) i=some (A++S lt (D++T)++B):=by
 intro T
 induction T with
 | nil =>
  intro D B a2 i hi h2 hb;rw[insertionSort.l0,if_neg (by simp at h2 ⊢;omega)];simp
 | cons x T ih =>
  intro D B a2 i hi h2 hb;simp only[List.length_cons] at h2 hb;rw[insertionSort.l0,if_pos (by simp;omega)];have e1:A++S lt D++x::T++B=A++S lt D++x::(T++B):=by simp
  rw[e1,ins_l1 hc h A x a1 a2 i ha _ (S lt D) (T++B) i rfl (Z8e h D) (by rw[Z50];exact hi) (by rw[Z50];omega),sb,Z0b (by omega) (by omega)];rw[← Zbt];have:=ih (D++[x]) B a2 (i+1) (by simp;omega) (by simp;omega) (by simp;omega);simp only[List.append_assoc,List.singleton_append] at this ⊢;exact this
theorem ins_f (hc:Cmp cmp lt) (h:SWO lt) (A T B:List α) (a1 a2:Int) (ha:a1=(A.length:Int)) (h2:a2=((A.length+T.length:Nat):Int)) (hb:A.length+T.length<10000000000000000) :
  insertionSort.f cmp (A++T++B) a1 a2=some (A++S lt T++B):=by
 unfold insertionSort.f;rw[Z0b (by omega) (by omega)];cases T with
 | nil =>
  rw[insertionSort.l0,if_neg (by simp at h2 ⊢;omega),sb];simp[S_nil]
 | cons x T =>
  simp only[List.length_cons] at h2 hb;have:=ins_l0 hc h A a1 ha T [x] B a2 (a1+1) (by simp;omega) (by simp;omega) (by simp;omega);have e:S lt [x]=[x]:=by simp[S,Z47]
  rw[e] at this;simp only[List.append_assoc,List.singleton_append,List.cons_append,List.nil_append] at this ⊢;rw[this];rfl
theorem swp_l0 (A M C:List α) (a1 a2 a3:Int) (ha:a1=(A.length:Int)):∀ (U V W X:List α) (i:Int),V.length=X.length→W.length=U.length→i=(U.length:Int) →
  a2=((A.length+U.length+V.length+M.length:Nat):Int)→a3=((U.length+V.length:Nat):Int)→A.length+U.length+V.length+M.length+U.length+V.length<10000000000000000 →
  swapRange.l0 a1 a2 a3 (A++U++V++M++W++X++C) i=some (A++U++X++M++W++V++C):=by
 intro U V
 induction V generalizing U with
 | nil =>
  intro W X i h1 h2 hi _ h3 _;obtain rfl:X=[]:=List.length_eq_zero_iff.1 (by simpa using h1.symm);rw[swapRange.l0,if_neg (by simp at h3 ⊢;omega)]
 | cons v V ih =>
  intro W X i h1 h2 hi h3 h4 hb;cases X with
  | nil=>simp at h1
  | cons x X =>
  simp only[List.length_cons] at h1 h3 h4 hb;have e1:A++U++v::V++M++W++x::X++C=(A++U++v::V++M++W)++x::(X++C):=by simp
  have e2:A++U++v::V++M++W++x::X++C=(A++U)++v::(V++M++W++x::X++C):=by simp
  have w1:IntKind.i64.wrap (a1+i)=((A.length+U.length:Nat):Int):=by rw[Z0b (by omega) (by omega)];omega
  have w2:IntKind.i64.wrap (a2+i)=((A.length+U.length+(V.length+1)+M.length+U.length:Nat):Int):=by rw[Z0b (by omega) (by omega)];omega
  have w3:IntKind.i64.wrap (i+1)=((U.length+1:Nat):Int):=by rw[Z0b (by omega) (by omega)];omega
  rw[swapRange.l0,if_pos (by simp;omega),w1,w2,w3,e1,Z5l _ _ _ (by simp;omega),← e1,e2,Z5l _ _ _ (by simp),Z6c _ _ _ _ (by simp;omega)];rw[show(A++U++x::(V++M++W++x::X++C))=(A++U++x::V++M++W)++x::(X++C) by simp,Z5l _ _ _ (by simp;omega),Z6c _ _ _ _ (by simp;omega)];have:=ih (U++[x]) (W++[v]) X ((U.length+1:Nat):Int) (by omega) (by simp;omega) (by simp) (by simp;omega) (by simp;omega) (by simp;omega);simp only[List.append_assoc,List.singleton_append,List.cons_append,List.nil_append] at this ⊢;rw[this]
theorem swp_f (A U M W C:List α) (a1 a2 a3:Int) (ha:a1=(A.length:Int)) (h2:a2=((A.length+U.length+M.length:Nat):Int)) (h3:a3=(U.length:Int)) (hw:W.length=U.length) (hb:A.length+U.length+M.length+U.length<10000000000000000) :
  swapRange.f (A++U++M++W++C) a1 a2 a3=some (A++W++M++U++C):=by
 unfold swapRange.f;have:=swp_l0 A M C a1 a2 a3 ha [] U [] W 0 hw.symm rfl rfl (by simp;omega) (by simp;omega) (by simp;omega);simp only[List.append_nil,List.nil_append,List.append_assoc] at this ⊢;rw[this];rfl
theorem rot_l0 (m:Int):∀ (n:Nat) (A P Q C:List α) (i j:Int),P.length+Q.length≤n→0<P.length→0<Q.length→i=(P.length:Int)→j=(Q.length:Int)→m=((A.length+P.length:Nat):Int)→A.length+P.length+Q.length<10000000000000000 →
  ∃ (A' P' Q' C':List α),rotate.l0 m (A++P++Q++C) i j=some (A'++P'++Q'++C',(P'.length:Int))∧P'.length=Q'.length∧0<P'.length∧m=((A'.length+P'.length:Nat):Int) ∧
   A'.length+P'.length+Q'.length<10000000000000000∧A'++Q'++P'++C'=A++Q++P++C:=by
 intro n
 induction n with
 | zero=>intro A P Q C i j hn h1 h2;omega
 | succ n ih =>
  intro A P Q C i j hn h1 h2 hi hj hm hb;rw[rotate.l0];by_cases hij:i=j
  ·subst hij
   rw[if_neg (by simp)];exact⟨A,P,Q,C,by rw[hi],by omega,h1,hm,hb,rfl⟩
  rw[if_pos (by simpa using hij)];by_cases hgt:i>j
  ·rw[if_pos (by simpa using hgt)]
   obtain⟨P1,P2,rfl,hl⟩:∃ P1 P2,P=P1++P2∧P1.length=Q.length:=⟨P.take Q.length,P.drop Q.length,by simp,by simp;omega⟩
   simp only[List.length_append] at hn h1 hi hm hb;have w1:IntKind.i64.wrap (m-i)=(A.length:Int):=by rw[Z0b (by omega) (by omega)];omega
   have w2:IntKind.i64.wrap (i-j)=(P2.length:Int):=by rw[Z0b (by omega) (by omega)];omega
   have hs:=swp_f A P1 P2 Q C (A.length:Int) m j rfl (by omega) (by omega) (by omega) (by omega);rw[w1,w2,show A++(P1++P2)++Q++C=A++P1++P2++Q++C by simp,hs,sb,sb];simp only[];obtain⟨A',P',Q',C',g1,g2,g3,g4,g5,g6⟩:=ih (A++Q) P2 P1 C (P2.length:Int) j (by omega) (by omega) (by omega) rfl (by omega) (by simp;omega) (by simp;omega);exact⟨A',P',Q',C',g1,g2,g3,g4,g5,by rw[g6];simp⟩
  ·rw[if_neg (by simpa using hgt)]
   obtain⟨Q1,Q2,rfl,hl⟩:∃ Q1 Q2,Q=Q1++Q2∧Q2.length=P.length:=⟨Q.take (Q.length-P.length),Q.drop (Q.length-P.length),by simp,by simp;omega⟩
   simp only[List.length_append] at hn h2 hj hb;have w1:IntKind.i64.wrap (m-i)=(A.length:Int):=by rw[Z0b (by omega) (by omega)];omega
   have w2:IntKind.i64.wrap (j-i)=(Q1.length:Int):=by rw[Z0b (by omega) (by omega)];omega
   have w3:IntKind.i64.wrap (IntKind.i64.wrap (m+j)-i)=((A.length+P.length+Q1.length:Nat):Int):=by rw[Z0b (n:=m+j) (by omega) (by omega),Z0b (by omega) (by omega)];omega
   have hs:=swp_f A P Q1 Q2 C (A.length:Int) ((A.length+P.length+Q1.length:Nat):Int) i rfl rfl hi (by omega) (by omega);rw[w1,w2,w3,show A++P++(Q1++Q2)++C=A++P++Q1++Q2++C by simp,hs,sb,sb];simp only[];obtain⟨A',P',Q',C',g1,g2,g3,g4,g5,g6⟩:=ih A Q2 Q1 (P++C) i (Q1.length:Int) (by omega) (by omega) (by omega) (by omega) rfl (by omega) (by omega);refine⟨A',P',Q',C',?_,g2,g3,g4,g5,by rw[g6];simp⟩;rw[show A++Q2++Q1++P++C=A++Q2++Q1++(P++C) by simp];exact g1
theorem rot_f (A P Q C:List α) (a m b:Int) (ha:a=(A.length:Int)) (hm:m=((A.length+P.length:Nat):Int)) (hb:b=((A.length+P.length+Q.length:Nat):Int)) (h1:0<P.length) (h2:0<Q.length) (hB:A.length+P.length+Q.length<10000000000000000) :
  rotate.f (A++P++Q++C) a m b=some (A++Q++P++C):=by
 unfold rotate.f;rw[Z0b (n:=m-a) (by omega) (by omega),Z0b (n:=b-m) (by omega) (by omega)];obtain⟨A',P',Q',C',g1,g2,g3,g4,g5,g6⟩:=rot_l0 m _ A P Q C (m-a) (b-m) (Nat.le_refl _) h1 h2 (by omega) (by omega) hm hB;rw[g1,sb];simp only[];have w1:IntKind.i64.wrap (m-(P'.length:Int))=(A'.length:Int):=by rw[Z0b (by omega) (by omega)];omega
 have hs:=swp_f A' P' [] Q' C' (A'.length:Int) m (P'.length:Int) rfl (by simp;omega) rfl g2.symm (by simp;omega);simp only[List.append_nil] at hs;rw[w1,hs,sb,g6]
end Run
theorem halves (L:Int→Int→Option Int) (pred:Nat→Bool) (lo0 hi0:Nat) (hend:∀ lo:Nat,lo0≤lo→lo≤hi0→L lo lo=some (lo:Int)) (hstep:∀ lo hi:Nat,lo0≤lo→lo<hi→hi≤hi0→L lo hi=if pred ((lo+hi) / 2)=true then L (((lo+hi) / 2+1:Nat):Int) hi else L lo (((lo+hi) / 2:Nat):Int)) :
  ∀ (n lo hi:Nat),hi-lo≤n→lo0≤lo→lo≤hi→hi≤hi0→∃ s:Nat,L lo hi=some (s:Int)∧lo≤s∧s≤hi∧(lo<s→pred (s-1)=true)∧(s<hi→pred s=false):=by
 intro n
 induction n with
 | zero =>
  intro lo hi hn h0 h1 h2;obtain rfl:lo=hi:=by omega
  exact⟨lo,hend lo h0 h2,Nat.le_refl _,Nat.le_refl _,fun h=>by omega,fun h=>by omega⟩
 | succ n ih =>
  intro lo hi hn h0 h1 h2;by_cases he:lo=hi
  ·subst he;exact⟨lo,hend lo h0 h2,Nat.le_refl _,Nat.le_refl _,fun h=>by omega,fun h=>by omega⟩
  rw[hstep lo hi h0 (by omega) h2];cases e:pred ((lo+hi) / 2) with
  | true =>
   rw[if_pos rfl];obtain⟨s,g1,g2,g3,g4,g5⟩:=ih ((lo+hi) / 2+1) hi (by omega) (by omega) (by omega) h2;refine⟨s,g1,by omega,g3,fun _ => ?_,g5⟩;by_cases hs:(lo+hi) / 2+1<s
   ·exact g4 hs
   ·rw[show s-1=(lo+hi) / 2 by omega];exact e
  | false =>
   rw[if_neg (by simp)];obtain⟨s,g1,g2,g3,g4,g5⟩:=ih lo ((lo+hi) / 2) (by omega) h0 (by omega) (by omega);refine⟨s,g1,g2,by omega,g4,fun _ => ?_⟩;by_cases hs:s<(lo+hi) / 2
   ·exact g5 hs
   ·rw[show s=(lo+hi) / 2 by omega];exact e
theorem Zbp {α β:Type} {l:List α} {i:Int} {k:Nat} {x:α} (hi:i=(k:Int)) (hx:l[k]? = some x) (f:α→Option β):(at? l i>>=f)=f x:=by
 subst hi;have:at? l (k:Int)=some x:=by unfold at?;rw[if_pos (by omega)];simpa using hx
 rw[this];rfl
theorem ifand {c d:Bool}:((if c=true then some d else some false):Option Bool)=some (c&&d):=by cases c<;>rfl
section Run
variable {α:Type} {cmp:α→α→Option Int} {lt:α→α→Bool}
theorem srt_get {Y:List α} (hs:Srt lt Y) {i j:Nat} {y z:α} (hi:Y[i]? = some y) (hj:Y[j]? = some z) (hij:i<j):lt z y=false:=by
 obtain⟨h1,rfl⟩:=List.getElem?_eq_some_iff.1 hi;obtain⟨h2,rfl⟩:=List.getElem?_eq_some_iff.1 hj;exact List.pairwise_iff_getElem.1 hs i j h1 h2 hij
theorem Zb8 (h:SWO lt) {Y:List α} (hs:Srt lt Y) {t:Nat} {x:α} (hb:∀ z,0<t→Y[t-1]? = some z→lt z x=true) (ht:t≤Y.length):∀ y∈Y.take t,lt y x=true:=by
 intro y hy;obtain⟨i,hi,rfl⟩:=List.mem_iff_getElem.1 hy;rw[List.length_take] at hi;rw[List.getElem_take];have hz:=hb (Y[t-1]'(by omega)) (by omega) (by simp);by_cases e:i=t-1
 ·subst e;exact hz
 ·have h1:=List.pairwise_iff_getElem.1 hs i (t-1) (by omega) (by omega) (by omega)
  cases e2:lt Y[i] x with
  | true=>rfl
  | false=>rw[h.trans _ _ _ e2 h1] at hz;exact hz
theorem take_le (h:SWO lt) {X:List α} (hs:Srt lt X) {t:Nat} {y:α} (hb:∀ z,0<t→X[t-1]? = some z→lt y z=false) (ht:t≤X.length):∀ x∈X.take t,lt y x=false:=by
 intro x hx;obtain⟨i,hi,rfl⟩:=List.mem_iff_getElem.1 hx;rw[List.length_take] at hi;rw[List.getElem_take];have hz:=hb (X[t-1]'(by omega)) (by omega) (by simp);by_cases e:i=t-1
 ·subst e;exact hz
 ·exact h.trans _ _ _ (List.pairwise_iff_getElem.1 hs i (t-1) (by omega) (by omega) (by omega)) hz
theorem Z9x {Y:List α} (hs:Srt lt Y) {t:Nat} {z:α} (hz:Y[t]? = some z):∀ y∈Y.drop t,y=z∨lt y z=false:=by
 intro y hy;obtain⟨i,hi,rfl⟩:=List.mem_iff_getElem.1 hy;rw[List.length_drop] at hi;rw[List.getElem_drop];by_cases e:i=0
 ·subst e;left
  obtain⟨h1,h2⟩:=List.getElem?_eq_some_iff.1 hz;simpa using h2
 ·right
  exact srt_get hs hz (by simp:Y[t+i]? = some (Y[t+i]'(by omega))) (by omega)
theorem sym_l1 (x:α) (x0:Int):∀ (Y A R:List α) (k:Int),k=(A.length:Int)→x0=((A.length+1+Y.length:Nat):Int)→A.length+1+Y.length<10000000000000000 →
  symMerge.l1 x0 (A++x::Y++R) k=some (A++Y++x::R):=by
 intro Y
 induction Y with
 | nil =>
  intro A R k hk h0 hb;rw[symMerge.l1,Z0b (n:=x0-1) (by omega) (by omega),if_neg (by simp at h0 ⊢;omega)];simp
 | cons y Y ih =>
  intro A R k hk h0 hb;simp only[List.length_cons] at h0 hb;rw[symMerge.l1,Z0b (n:=x0-1) (by omega) (by omega),if_pos (by simp;omega),Z0b (by omega) (by omega)];rw[show A++x::y::Y++R=(A++[x])++y::(Y++R) by simp,Z5l _ _ _ (by simp;omega)];rw[show(A++[x])++y::(Y++R)=A++x::(y::(Y++R)) by simp,Z5l _ _ _ hk,Z6c _ _ _ _ (by rw[hk];simp)];rw[show A++y::(y::(Y++R))=(A++[y])++y::(Y++R) by simp,Z5l _ _ _ (by simp;omega),Z6c _ _ _ _ (by simp;omega)];have:=ih (A++[y]) R (k+1) (by simp;omega) (by simp;omega) (by simp;omega);simp only[List.append_assoc,List.cons_append,List.singleton_append] at this ⊢;exact this
theorem sym_l3 (x:α) (A:List α) (x0:Int) (h0:x0=(A.length:Int)):∀ (n:Nat) (X R:List α) (k:Int),X.length=n→k=((A.length+X.length:Nat):Int)→A.length+X.length<10000000000000000 →
  symMerge.l3 x0 (A++X++x::R) k=some (A++x::X++R):=by
 intro n
 induction n with
 | zero =>
  intro X R k hn hk hb;obtain rfl:X=[]:=List.length_eq_zero_iff.1 hn;rw[symMerge.l3,if_neg (by simp at hk ⊢;omega)];simp
 | succ n ih =>
  intro X R k hn hk hb;rcases List.eq_nil_or_concat X with rfl | ⟨P,p,rfl⟩
  ·simp at hn
  simp only[List.concat_eq_append] at *;simp only[List.length_append,List.length_singleton] at hn hk hb;rw[symMerge.l3,if_pos (by simp;omega),Z0b (by omega) (by omega)];rw[show A++(P++[p])++x::R=(A++P)++p::(x::R) by simp,Z5l _ _ _ (by simp;omega)];rw[show(A++P)++p::(x::R)=(A++P++[p])++x::R by simp,Z5l _ _ _ (by simp;omega),Z6c _ _ _ _ (by simp;omega)];rw[show(A++P++[p])++p::R=(A++P)++p::(p::R) by simp,Z5l _ _ _ (by simp;omega),Z6c _ _ _ _ (by simp;omega)];have:=ih P (p::R) (k-1) (by omega) (by omega) (by omega);rw[this];simp
theorem get_mid {A X B:List α} {k i:Nat} (h:k=A.length+i) (hi:i<X.length):(A++X++B)[k]? = X[i]? := by
 subst h;rw[List.append_assoc,List.getElem?_append_right (by omega),List.getElem?_append_left (by omega)];congr 1;omega
theorem sym_f (hc:Cmp cmp lt) (h:SWO lt):∀ (n:Nat) (A X Y C:List α) (a m b:Int),X.length+Y.length≤n→0<X.length→0<Y.length→Srt lt X→Srt lt Y →
  a=(A.length:Int)→m=((A.length+X.length:Nat):Int)→b=((A.length+X.length+Y.length:Nat):Int)→A.length+X.length+Y.length<10000000000000000 →
  symMerge.f cmp (A++X++Y++C) a m b=some (A++mrg lt X Y++C):=by
 intro n
 induction n with
 | zero=>intro A X Y C a m b hn h1;omega
 | succ n ih =>
  intro A X Y C a m b hn h1 h2 hX hY ha hm hb hB;rw[symMerge.f];by_cases c1:X.length=1
  ·
   obtain⟨x,rfl⟩:=List.length_eq_one_iff.1 c1;simp only[List.length_singleton] at hm hb hB;rw[Z0b (n:=m-a) (by omega) (by omega),if_pos (by simp;omega)];have hg:∀ k,A.length+1≤k→k<A.length+1+Y.length→(A++[x]++Y++C)[k]? = Y[k-(A.length+1)]? := fun k hk1 hk2=>by
    have:=get_mid (A:=A++[x]) (X:=Y) (B:=C) (k:=k) (i:=k-(A.length+1)) (by simp;omega) (by omega);exact this
   have hx:(A++[x]++Y++C)[A.length]? = some x:=by simp
   obtain⟨s,g1,g2,g3,g4,g5⟩:=halves (fun lo hi=>symMerge.l0 cmp (A++[x]++Y++C) a lo hi) (fun k=>lt ((Y[k-(A.length+1)]?).getD x) x) (A.length+1) (A.length+1+Y.length)
    (fun lo _ _=>by(try simp only[]);rw[symMerge.l0,if_neg (by simp)])
    (fun lo hi q1 q2 q3=>by
     try simp only[]
     rw[symMerge.l0,if_pos (by simp;omega),mid64 (by omega) (by omega) (by omega)];have hh:((lo:Int)+hi) / 2=(((lo+hi) / 2:Nat):Int):=by omega
     have hk:=hg ((lo+hi) / 2) (by omega) (by omega);have hlt:(lo+hi) / 2-(A.length+1)<Y.length:=by omega
     obtain⟨c,hcc,hcl⟩:=hc (Y[(lo+hi) / 2-(A.length+1)]) x;rw[List.getElem?_eq_getElem hlt] at hk ⊢;rw[Zbp hh hk,Zbp ha hx,hcc,sb,hcl,Option.getD_some,hh];cases lt (Y[(lo+hi) / 2-(A.length+1)]) x with
     | true=>rw[if_pos rfl,sb,if_pos rfl,Z0b (by omega) (by omega)];rfl
     | false=>rw[if_neg (by simp),sb,if_neg (by simp)])
    _ (A.length+1) (A.length+1+Y.length) (Nat.le_refl _) (Nat.le_refl _) (by omega) (Nat.le_refl _)
   have e1:m=((A.length+1:Nat):Int):=hm;have e2:b=((A.length+1+Y.length:Nat):Int):=hb
   try simp only[] at g1
   rw[e1,e2,g1,sb];have ht:s-(A.length+1)≤Y.length:=by omega
   have hsplit:=List.take_append_drop (s-(A.length+1)) Y;have b1:=Zb8 h hY (t:=s-(A.length+1)) (x:=x) (fun z hz hz2=>by
    have:=g4 (by omega);rw[show s-1-(A.length+1)=s-(A.length+1)-1 by omega,hz2] at this;exact this) ht
   have b2:∀ y∈Y.drop (s-(A.length+1)),lt y x=false:=by
    by_cases hse:s<A.length+1+Y.length
    ·have hz:=g5 hse
     have hlt:s-(A.length+1)<Y.length:=by omega
     rw[List.getElem?_eq_getElem hlt,Option.getD_some] at hz;intro y hy;rcases Z9x hY (List.getElem?_eq_getElem hlt) y hy with rfl | hy2
     ·exact hz
     ·exact h.trans _ _ _ hz hy2
    ·rw[List.drop_eq_nil_of_le (by omega)];simp
   have hl1:=sym_l1 x (s:Int) (Y.take (s-(A.length+1))) A (Y.drop (s-(A.length+1))++C) a ha (by rw[List.length_take];omega) (by rw[List.length_take];omega);rw[show A++[x]++Y++C=A++x::Y.take (s-(A.length+1))++(Y.drop (s-(A.length+1))++C) by
    simp only[List.append_assoc,List.cons_append,List.nil_append];rw[← List.append_assoc (Y.take _),hsplit],hl1,sb]
   have m1:=Z58 (lt:=lt) _ [] [x] (Y.take (s-(A.length+1))) (Y.drop (s-(A.length+1))) (Nat.le_refl _) (by simp) (fun y hy z hz=>by simp at hz;subst hz;exact b1 y hy);have m2:=Z58 (lt:=lt) _ [x] [] [] (Y.drop (s-(A.length+1))) (Nat.le_refl _) (fun z hz y hy=>by simp at hz;subst hz;exact b2 y hy) (by simp);rw[hsplit] at m1;simp only[List.nil_append,List.append_nil,Z47,Z5s] at m1 m2;rw[m1,m2];simp
  rw[Z0b (n:=m-a) (by omega) (by omega),if_neg (by simp;omega)];by_cases c2:Y.length=1
  ·
   obtain⟨y,rfl⟩:=List.length_eq_one_iff.1 c2;simp only[List.length_singleton] at hb hB;rw[Z0b (n:=b-m) (by omega) (by omega),if_pos (by simp;omega)];have hg:∀ k,A.length≤k→k<A.length+X.length→(A++X++[y]++C)[k]? = X[k-A.length]? := fun k hk1 hk2=>by
    have:=get_mid (A:=A) (X:=X) (B:=[y]++C) (k:=k) (i:=k-A.length) (by omega) (by omega);simpa using this
   have hy:(A++X++[y]++C)[A.length+X.length]? = some y:=by
    rw[List.append_assoc (A++X),List.getElem?_append_right (by simp)];simp
   obtain⟨s,g1,g2,g3,g4,g5⟩:=halves (fun lo hi=>symMerge.l2 cmp (A++X++[y]++C) m lo hi) (fun k => !(lt y ((X[k-A.length]?).getD y))) A.length (A.length+X.length)
    (fun lo _ _=>by(try simp only[]);rw[symMerge.l2,if_neg (by simp)])
    (fun lo hi q1 q2 q3=>by
     try simp only[]
     rw[symMerge.l2,if_pos (by simp;omega),mid64 (by omega) (by omega) (by omega)];have hh:((lo:Int)+hi) / 2=(((lo+hi) / 2:Nat):Int):=by omega
     have hk:=hg ((lo+hi) / 2) (by omega) (by omega);have hlt:(lo+hi) / 2-A.length<X.length:=by omega
     obtain⟨c,hcc,hcl⟩:=hc y (X[(lo+hi) / 2-A.length]);rw[List.getElem?_eq_getElem hlt] at hk ⊢;rw[Zbp hm hy,Zbp hh hk,hcc,sb,hcl,Option.getD_some,hh];cases lt y (X[(lo+hi) / 2-A.length]) with
     | false=>rw[if_pos (show(!false)=true from rfl),sb,if_pos (show(!false)=true from rfl),Z0b (by omega) (by omega)];rfl
     | true=>rw[if_neg (by simp),sb,if_neg (by simp)])
    _ A.length (A.length+X.length) (Nat.le_refl _) (Nat.le_refl _) (by omega) (Nat.le_refl _)
   try simp only[] at g1
   rw[ha,hm] at *;rw[g1,sb];have ht:s-A.length≤X.length:=by omega
   have hsplit:=List.take_append_drop (s-A.length) X;have b1:=take_le h hX (t:=s-A.length) (y:=y) (fun z hz hz2=>by
    have:=g4 (by omega);rw[show s-1-A.length=s-A.length-1 by omega,hz2] at this;simpa using this) ht
   have b2:∀ x∈X.drop (s-A.length),lt y x=true:=by
    by_cases hse:s<A.length+X.length
    ·have hz:=g5 hse
     have hlt:s-A.length<X.length:=by omega
     rw[List.getElem?_eq_getElem hlt,Option.getD_some] at hz;have hz':lt y (X[s-A.length])=true:=by simpa using hz
     intro x hx;rcases Z9x hX (List.getElem?_eq_getElem hlt) x hx with rfl | hx2
     ·exact hz'
     ·cases e:lt y x with
      | true=>rfl
      | false=>rw[h.trans _ _ _ hx2 e] at hz';exact hz'
    ·rw[List.drop_eq_nil_of_le (by omega)];simp
   have hl3:=sym_l3 y (A++X.take (s-A.length)) (s:Int) (by simp;omega) _ (X.drop (s-A.length)) C ((A.length+X.length:Nat):Int) rfl (by simp;omega) (by simp;omega);rw[show A++X++[y]++C=A++X.take (s-A.length)++X.drop (s-A.length)++y::C by
    simp only[List.append_assoc,List.cons_append,List.nil_append];rw[← List.append_assoc (X.take _),hsplit],hl3,sb]
   have m1:=Z58 (lt:=lt) _ (X.take (s-A.length)) (X.drop (s-A.length)) [] [y] (Nat.le_refl _) (fun x hx z hz=>by simp at hz;subst hz;exact b1 x hx) (by simp);have m2:=Z58 (lt:=lt) _ [] (X.drop (s-A.length)) [y] [] (Nat.le_refl _) (by simp) (fun z hz x hx=>by simp at hz;subst hz;exact b2 x hx);rw[hsplit] at m1;simp only[List.nil_append,List.append_nil,Z47,Z5s] at m1 m2;rw[m1,m2];simp
  rw[Z0b (n:=b-m) (by omega) (by omega),if_neg (by simp;omega),mid64 (by omega) (by omega) (by omega)];generalize hmid:(a+b) / 2=mid;rw[Z0b (n:=mid+m) (by omega) (by omega)];obtain⟨lo,hi,hlohi,q1,q2,q3,q4,q5,q6,q7,q8⟩:∃ lo hi:Nat,((if(decide (m>mid))=true then(some (IntKind.i64.wrap ((mid+m)-b),mid)) else(some (a,m))):Option (Int×Int))=some ((lo:Int),(hi:Int)) ∧
    a≤(lo:Int)∧lo≤hi∧(hi:Int)≤m∧(∀ c:Nat,lo≤c→c<hi→m≤mid+m-1-c∧mid+m-1-(c:Int)<b)∧((lo:Int)=a∨mid+m-lo=b)∧((hi:Int)=m∨mid+m-hi=m)∧(hi:Int)≤mid∧mid+m-lo≤b:=by
   by_cases hmm:m>mid
   ·refine⟨(mid+m-b).toNat,mid.toNat,?_,by omega,by omega,by omega,fun c h1 h2=>by omega,.inr (by omega),.inr (by omega),by omega,by omega⟩
    rw[if_pos (by simpa using hmm),Z0b (by omega) (by omega)];congr 2<;>omega
   ·refine⟨a.toNat,m.toNat,?_,by omega,by omega,by omega,fun c h1 h2=>by omega,.inl (by omega),.inl (by omega),by omega,by omega⟩
    rw[if_neg (by simpa using hmm)];congr 2<;>omega
  rw[hlohi,sb]
  try simp only[]
  have hgX:∀ k,A.length≤k→k<A.length+X.length→(A++X++Y++C)[k]? = X[k-A.length]? := fun k hk1 hk2=>by
   have:=get_mid (A:=A) (X:=X) (B:=Y++C) (k:=k) (i:=k-A.length) (by omega) (by omega);simpa using this
  have hgY:∀ k,A.length+X.length≤k→k<A.length+X.length+Y.length→(A++X++Y++C)[k]? = Y[k-(A.length+X.length)]? := fun k hk1 hk2=>by
   have:=get_mid (A:=A++X) (X:=Y) (B:=C) (k:=k) (i:=k-(A.length+X.length)) (by simp;omega) (by omega);exact this
  obtain⟨x₀,hx₀⟩:∃ x,x∈X:=List.exists_mem_of_length_pos h1
  let p:Nat:=(mid+m-1).toNat
  have hp:(p:Int)=mid+m-1:=by show((mid+m-1).toNat:Int)=_;omega
  obtain⟨s,g1,g2,g3,g4,g5⟩:=halves (fun lo hi=>symMerge.l4 cmp (A++X++Y++C) a m b lo hi) (fun k => !(lt ((Y[p-k-(A.length+X.length)]?).getD x₀) ((X[k-A.length]?).getD x₀))) lo hi
   (fun lo _ _=>by(try simp only[]);rw[symMerge.l4,if_neg (by simp)])
   (fun lo' hi' r1 r2 r3=>by
    try simp only[]
    have hq:=q4 ((lo'+hi') / 2) (by omega) (by omega);rw[symMerge.l4,if_pos (by simp;omega),mid64 (a:=(lo':Int)) (by omega) (by omega) (by omega),mid64 (a:=a) (by omega) (by omega) (by omega),hmid];have hh:((lo':Int)+hi') / 2=(((lo'+hi') / 2:Nat):Int):=by omega
    rw[Z0b (n:=mid+m) (by omega) (by omega),Z0b (n:=mid+m-1) (by omega) (by omega),Z0b (n:=mid+m-1-_) (by omega) (by omega)];have hk:=hgX ((lo'+hi') / 2) (by omega) (by omega);have hk2:=hgY (p-(lo'+hi') / 2) (by omega) (by omega);have hlt:(lo'+hi') / 2-A.length<X.length:=by omega
    have hlt2:p-(lo'+hi') / 2-(A.length+X.length)<Y.length:=by omega
    obtain⟨c,hcc,hcl⟩:=hc (Y[p-(lo'+hi') / 2-(A.length+X.length)]) (X[(lo'+hi') / 2-A.length]);rw[List.getElem?_eq_getElem hlt] at hk ⊢;rw[List.getElem?_eq_getElem hlt2] at hk2 ⊢;rw[Zbp (k:=p-(lo'+hi') / 2) (by omega) hk2,Zbp hh hk,hcc,sb,hcl,Option.getD_some,Option.getD_some,hh];cases lt (Y[p-(lo'+hi') / 2-(A.length+X.length)]) (X[(lo'+hi') / 2-A.length]) with
    | false=>rw[if_pos (show(!false)=true from rfl),sb,if_pos (show(!false)=true from rfl),Z0b (by omega) (by omega)];rfl
    | true=>rw[if_neg (by simp),sb,if_neg (by simp)])
   _ lo hi (Nat.le_refl _) (Nat.le_refl _) q2 (Nat.le_refl _)
  try simp only[] at g1
  rw[g1,sb,Z0b (n:=mid+m-s) (by omega) (by omega)];obtain⟨X1,X2,rfl,l1⟩:∃ X1 X2,X=X1++X2∧X1.length=s-A.length:=⟨X.take (s-A.length),X.drop (s-A.length),by simp,by simp;omega⟩
  obtain⟨Y1,Y2,rfl,l2⟩:∃ Y1 Y2,Y=Y1++Y2∧(Y1.length:Int)=mid-s:=⟨Y.take (mid-s).toNat,Y.drop (mid-s).toNat,by simp,by
   rw[List.length_take];omega⟩
  simp only[List.length_append] at *;have hX1:Srt lt X1:=(List.pairwise_append.1 hX).1;have hX2:Srt lt X2:=(List.pairwise_append.1 hX).2.1;have hY1:Srt lt Y1:=(List.pairwise_append.1 hY).1;have hY2:Srt lt Y2:=(List.pairwise_append.1 hY).2.1;have k1:∀ x∈X1,∀ y∈Y2,lt y x=false:=by
   intro x hx y hy;have hl1:=List.length_pos_of_mem hx;have hl2:=List.length_pos_of_mem hy;have hsl:lo<s:=by
    rcases q5 with q5 | q5<;>omega
   have hz:=g4 hsl;have i1:s-1-A.length=X1.length-1:=by omega
   have i2:p-(s-1)-(A.length+(X1.length+X2.length))=Y1.length:=by omega
   rw[i1,i2,List.getElem?_append_right (by omega),Nat.sub_self,List.getElem?_append_left (by omega),List.getElem?_eq_getElem hl2,List.getElem?_eq_getElem (by omega),Option.getD_some,Option.getD_some] at hz;have hz:lt Y2[0] X1[X1.length-1]=false:=by simpa using hz
   have a1:=take_le h hX1 (t:=X1.length) (y:=Y2[0]) (fun z _ hz2=>by
    rw[List.getElem?_eq_getElem (by omega)] at hz2;rw[← Option.some.inj hz2];exact hz) (Nat.le_refl _) x (by simpa using hx)
   rcases Z9x hY2 (t:=0) (List.getElem?_eq_getElem hl2) y (by simpa using hy) with rfl | hy2
   ·exact a1
   ·exact h.trans _ _ _ a1 hy2
  have k2:∀ y∈Y1,∀ x∈X2,lt y x=true:=by
   intro y hy x hx;have hl1:=List.length_pos_of_mem hx;have hl2:=List.length_pos_of_mem hy;have hsl:s<hi:=by
    rcases q6 with q6 | q6<;>omega
   have hz:=g5 hsl;have i1:s-A.length=X1.length:=by omega
   have i2:p-s-(A.length+(X1.length+X2.length))=Y1.length-1:=by omega
   rw[i1,i2,List.getElem?_append_left (by omega),List.getElem?_append_right (by omega),Nat.sub_self,List.getElem?_eq_getElem (by omega),List.getElem?_eq_getElem hl1,Option.getD_some,Option.getD_some] at hz;have hz:lt Y1[Y1.length-1] X2[0]=true:=by simpa using hz
   have a1:=Zb8 h hY1 (t:=Y1.length) (x:=X2[0]) (fun z _ hz2=>by
    rw[List.getElem?_eq_getElem (by omega)] at hz2;rw[← Option.some.inj hz2];exact hz) (Nat.le_refl _) y (by simpa using hy)
   rcases Z9x hX2 (t:=0) (List.getElem?_eq_getElem hl1) x (by simpa using hx) with rfl | hx2
   ·exact a1
   ·cases e:lt y x with
    | true=>rfl
    | false=>rw[h.trans _ _ _ hx2 e] at a1;exact a1
  rw[ifand,sb];have hrot:(((if(decide ((s:Int)<m)&&decide (m<mid+m-s))=true then((rotate.f (A++(X1++X2)++(Y1++Y2)++C) s m (mid+m-s))>>=fun t8=>some t8) else(some (A++(X1++X2)++(Y1++Y2)++C))):Option (List α))) =
    some (A++X1++Y1++X2++Y2++C):=by
   by_cases hr:(s:Int)<m∧m<mid+m-s
   ·rw[if_pos (by simp;omega)]
    have:=rot_f (A++X1) X2 Y1 (Y2++C) (s:Int) m (mid+m-s) (by simp;omega) (by simp;omega) (by simp;omega) (by omega) (by omega) (by simp;omega);simp only[List.append_assoc] at this ⊢;rw[this];rfl
   ·rw[if_neg (by simp;omega)]
    rcases(show X2.length=0∨Y1.length=0 by omega) with e | e
    ·obtain rfl:=List.length_eq_zero_iff.1 e;simp
    ·obtain rfl:=List.length_eq_zero_iff.1 e;simp
  rw[hrot,sb,ifand,sb];have hfst:(((if(decide (a<(s:Int))&&decide ((s:Int)<mid))=true then((symMerge.f cmp (A++X1++Y1++X2++Y2++C) a s mid)>>=fun t11=>some t11) else(some (A++X1++Y1++X2++Y2++C))):Option (List α))) =
    some (A++mrg lt X1 Y1++X2++Y2++C):=by
   by_cases hr:a<(s:Int)∧(s:Int)<mid
   ·rw[if_pos (by simp;omega)]
    have:=ih A X1 Y1 (X2++Y2++C) a (s:Int) mid (by omega) (by omega) (by omega) hX1 hY1 ha (by omega) (by omega) (by omega);simp only[List.append_assoc] at this ⊢;rw[this];rfl
   ·rw[if_neg (by simp;omega)]
    rcases(show X1.length=0∨Y1.length=0 by omega) with e | e
    ·obtain rfl:=List.length_eq_zero_iff.1 e;simp[Z47]
    ·obtain rfl:=List.length_eq_zero_iff.1 e;simp[Z5s]
  rw[hfst,sb,ifand,sb];have hsnd:(((if(decide (mid<mid+m-(s:Int))&&decide (mid+m-(s:Int)<b))=true then((symMerge.f cmp (A++mrg lt X1 Y1++X2++Y2++C) mid (mid+m-s) b)>>=fun t11=>some t11) else(some (A++mrg lt X1 Y1++X2++Y2++C))):Option (List α))) =
    some (A++mrg lt X1 Y1++mrg lt X2 Y2++C):=by
   by_cases hr:mid<mid+m-(s:Int)∧mid+m-(s:Int)<b
   ·rw[if_pos (by simp;omega)]
    have:=ih (A++mrg lt X1 Y1) X2 Y2 C mid (mid+m-s) b (by omega) (by omega) (by omega) hX2 hY2 (by rw[List.length_append,mrg_len];omega) (by rw[List.length_append,mrg_len];omega) (by rw[List.length_append,mrg_len];omega) (by rw[List.length_append,mrg_len];omega);rw[this];rfl
   ·rw[if_neg (by simp;omega)]
    rcases(show X2.length=0∨Y2.length=0 by omega) with e | e
    ·obtain rfl:=List.length_eq_zero_iff.1 e;simp[Z47]
    ·obtain rfl:=List.length_eq_zero_iff.1 e;simp[Z5s]
  rw[hsnd,sb,Z58 _ X1 X2 Y1 Y2 (Nat.le_refl _) k1 k2];simp
def Blk (lt:α→α→Bool) (bs:Nat) (l:List α):List α :=
 if h:0<bs∧bs≤l.length then S lt (l.take bs)++Blk lt bs (l.drop bs) else S lt l
termination_by l.length
decreasing_by simp;omega
theorem Z95 {bs:Nat} (T R:List α) (h0:0<bs) (hT:T.length=bs):Blk lt bs (T++R)=S lt T++Blk lt bs R:=by
 rw[Blk,dif_pos ⟨h0,by simp;omega⟩];simp[← hT]
theorem Z5c {bs:Nat} (l:List α) (hl:l.length<bs):Blk lt bs l=S lt l:=by
 rw[Blk,dif_neg (by omega)]
theorem Blk_all {bs:Nat} (l:List α) (h0:0<bs) (hl:l.length≤bs):Blk lt bs l=S lt l:=by
 by_cases h:l.length=bs
 ·have:=Z95     (lt:=lt) l [] h0 h
  rw[List.append_nil,Z5c [] (by simpa using h0),S_nil,List.append_nil] at this;exact this
 ·exact Z5c l (by omega)
theorem stb_l0 (hc:Cmp cmp lt) (h:SWO lt) (nn:Int):∀ (n:Nat) (D R:List α) (a b:Int),R.length≤n→nn=((D.length+R.length:Nat):Int)→a=(D.length:Int)→b=a+20→D.length+R.length<1000000000000000 →
  ∃ (D' R':List α),stable.l0 cmp nn (D++R) a b=some (D'++R',(D'.length:Int))∧D'.length+R'.length=D.length+R.length∧D'++S lt R'=D++Blk lt 20 R:=by
 intro n
 induction n with
 | zero =>
  intro D R a b hn h1 h2 h3 hb;obtain rfl:R=[]:=List.length_eq_zero_iff.1 (by omega);rw[stable.l0,if_neg (by simp at h1 ⊢;omega)];exact⟨D,[],by rw[h2],rfl,by rw[Z5c _ (by simp)]⟩
 | succ n ih =>
  intro D R a b hn h1 h2 h3 hb;rw[stable.l0];by_cases hr:20≤R.length
  ·rw[if_pos (by simp;omega)]
   obtain⟨T,R,rfl,hT⟩:∃ T R',R=T++R'∧T.length=20:=⟨R.take 20,R.drop 20,by simp,by simp;omega⟩
   simp only[List.length_append] at *;have:=ins_f hc h D T R a b h2 (by omega) (by omega);rw[← List.append_assoc,this,sb,Z0b (by omega) (by omega)];obtain⟨D',R',g1,g2,g3⟩:=ih (D++S lt T) R b (b+20) (by omega) (by simp[Z50];omega) (by simp[Z50];omega) rfl (by simp[Z50];omega);refine⟨D',R',g1,by simp[Z50] at g2;omega,by rw[g3,Z95 T R (by omega) hT,List.append_assoc]⟩
  ·rw[if_neg (by simp;omega)]
   exact⟨D,R,by rw[h2],rfl,by rw[Z5c _ (by omega)]⟩
theorem stb_l2 (hc:Cmp cmp lt) (h:SWO lt) (nn:Int) (bs:Nat) (h0:0<bs):∀ (n:Nat) (D R:List α) (a b:Int),R.length≤n→nn=((D.length+R.length:Nat):Int)→a=(D.length:Int)→b=a+2*(bs:Int)→D.length+R.length<1000000000000000→bs<1000000000000000 →
  ∃ (D' R':List α),stable.l2 cmp nn (bs:Int) (D++Blk lt bs R) a b=some (D'++Blk lt bs R',(D'.length:Int))∧D'.length+R'.length=D.length+R.length∧R'.length<2*bs∧D'++S lt R'=D++Blk lt (2*bs) R:=by
 intro n
 induction n with
 | zero =>
  intro D R a b hn h1 h2 h3 hb hbs;obtain rfl:R=[]:=List.length_eq_zero_iff.1 (by omega);rw[stable.l2,if_neg (by simp at h1 ⊢;omega)];exact⟨D,[],by rw[h2],rfl,by simp;omega,by rw[Z5c (bs:=2*bs) _ (by simp;omega)]⟩
 | succ n ih =>
  intro D R a b hn h1 h2 h3 hb hbs;rw[stable.l2];by_cases hr:2*bs≤R.length
  ·rw[if_pos (by simp;omega)]
   obtain⟨T,R,rfl,hT⟩:∃ T R',R=T++R'∧T.length=bs:=⟨R.take bs,R.drop bs,by simp,by simp;omega⟩
   obtain⟨U,R,rfl,hU⟩:∃ T R',R=T++R'∧T.length=bs:=⟨R.take bs,R.drop bs,by simp,by simp at hr ⊢;omega⟩
   simp only[List.length_append] at *;rw[Z95 T _ h0 hT,Z95 U _ h0 hU,Z0b (n:=a+(bs:Int)) (by omega) (by omega),Z0b (n:=2*(bs:Int)) (by omega) (by omega),Z0b (n:=b+_) (by omega) (by omega)];have:=sym_f hc h _ D (S lt T) (S lt U) (Blk lt bs R) a (a+bs) b (Nat.le_refl _) (by rw[Z50];omega) (by rw[Z50];omega) (Z8e h T) (Z8e h U) h2 (by rw[Z50];omega) (by rw[Z50,Z50];omega) (by rw[Z50,Z50];omega);rw[← List.append_assoc,← List.append_assoc,this,sb,← S_append h];obtain⟨D',R',g1,g2,g3,g4⟩:=ih (D++S lt (T++U)) R b (b+2*(bs:Int)) (by omega) (by simp[Z50];omega) (by simp[Z50];omega) rfl (by simp[Z50];omega) hbs;refine⟨D',R',g1,by simp[Z50] at g2;omega,g3,?_⟩;rw[g4,← List.append_assoc,Z95 (T++U) R (by omega) (by simp;omega),List.append_assoc]
  ·rw[if_neg (by simp;omega)]
   exact⟨D,R,by rw[h2],rfl,by omega,by rw[Z5c (bs:=2*bs) _ (by omega)]⟩
theorem stb_l1 (hc:Cmp cmp lt) (h:SWO lt) (l:List α) (hb:l.length<100000000000000):∀ (n bs:Nat),l.length-bs≤n→0<bs→bs<500000000000000 →
  stable.l1 cmp (l.length:Int) (Blk lt bs l) (bs:Int)=some (S lt l):=by
 intro n
 induction n with
 | zero =>
  intro bs hn h0 hbs;rw[stable.l1,if_neg (by simp;omega),Blk_all l h0 (by omega)]
 | succ n ih =>
  intro bs hn h0 hbs;rw[stable.l1];by_cases hlt:bs<l.length
  ·rw[if_pos (by simp;omega),Z0b    (n:=2*(bs:Int)) (by omega) (by omega)]
   obtain⟨D,R,g1,g2,g3,g4⟩:=stb_l2 hc h (l.length:Int) bs h0 _ [] l 0 (2*(bs:Int)) (Nat.le_refl _) (by simp) (by simp) (by simp) (by simp;omega) (by omega);simp only[List.nil_append,List.length_nil,Nat.zero_add] at g1 g2 g4;rw[g1,sb]
   try simp only[]
   rw[Z0b (n:=(D.length:Int)+bs) (by omega) (by omega),Z0b (n:=(bs:Int)*2) (by omega) (by omega)];have hlast:(((if(decide ((D.length:Int)+bs<(l.length:Int)))=true then((symMerge.f cmp (D++Blk lt bs R) D.length (D.length+bs) l.length)>>=fun t4=>some t4) else(some (D++Blk lt bs R))):Option (List α)))=some (Blk lt (2*bs) l):=by
    rw[← g4];by_cases hr:bs<R.length
    ·rw[if_pos (by simp;omega)]
     obtain⟨T,U,rfl,hT⟩:∃ T R',R=T++R'∧T.length=bs:=⟨R.take bs,R.drop bs,by simp,by simp;omega⟩
     simp only[List.length_append] at *;rw[Z95 T _ h0 hT,Z5c U (by omega)];have:=sym_f hc h _ D (S lt T) (S lt U) [] D.length (D.length+bs) l.length (Nat.le_refl _) (by rw[Z50];omega) (by rw[Z50];omega) (Z8e h T) (Z8e h U) rfl (by rw[Z50];omega) (by rw[Z50,Z50];omega) (by rw[Z50,Z50];omega);simp only[List.append_nil] at this;rw[← List.append_assoc,this,sb,S_append h]
    ·rw[if_neg (by simp;omega),Blk_all R h0 (by omega)]
   rw[hlast,sb,show(bs:Int)*2=((2*bs:Nat):Int) by omega];exact ih (2*bs) (by omega) (by omega) (by omega)
  ·rw[if_neg (by simp;omega),Blk_all l h0 (by omega)]
theorem sorts (hc:Cmp cmp lt) (h:SWO lt) (l:List α) (hb:l.length<100000000000000):SortStable.f cmp l=some (S lt l):=by
 unfold SortStable.f stable.f;obtain⟨D,R,g1,g2,g3⟩:=stb_l0 hc h (l.length:Int) _ [] l 0 20 (Nat.le_refl _) (by simp) (by simp) rfl (by simp;omega);simp only[List.nil_append,List.length_nil,Nat.zero_add] at g1 g2 g3;rw[g1,sb]
 try simp only[]
 have:=ins_f hc h D R [] (D.length:Int) (l.length:Int) rfl (by omega) (by omega);simp only[List.append_nil] at this;rw[this,sb,g3];have:=stb_l1 hc h l hb _ 20 (Nat.le_refl _) (by omega) (by omega);rw[show(20:Int)=((20:Nat):Int) from rfl,this];rfl
end Run
end Go.Pv.GS
namespace Go.Pv
open Go.Pv.GS
theorem Z5a:∀ {l:List Int},(∀ x∈l,0≤x)→0≤l.sum
 | [],_=>by simp
 | x::l,h=>by
  have h1:=h x (by simp);have h2:=Z5a (l:=l) (fun y hy=>h y (by simp[hy]));rw[List.sum_cons];omega
theorem Z9z {n:Int} (h0:0≤n) (h1:n<18446744073709551616):IntKind.u64.wrap n=n:=by
 simp only[IntKind.wrap,IntKind.signed,IntKind.bits];simp;omega
theorem wrapU_eq (n:Int):IntKind.u64.wrap n=n % 18446744073709551616:=by
 simp only[IntKind.wrap,IntKind.signed,IntKind.bits];simp
theorem u64_wrap (n:Int):U64 (IntKind.u64.wrap n):=by
 rw[wrapU_eq];constructor<;>omega
theorem Z1s {α:Type} {l pre suf:List α} {x:α} {i:Int} (h:l=pre++x::suf) (hi:i=(pre.length:Int)):at? l i=some x:=by
 subst h;subst hi;unfold at?;rw[if_pos (by omega)];simp
theorem at_nat {α:Type} {l:List α} {x:α} {i:Int} {k:Nat} (hi:i=(k:Int)) (h:l[k]? = some x):at? l i=some x:=by
 subst hi;unfold at?;rw[if_pos (by omega)];simpa using h
theorem Z89 {α β:Type} {c:Prop} [Decidable c] (x y:Option α) (f:α→Option β):((if c then x else y)>>=f)=if c then x>>=f else y>>=f:=by split<;>rfl
end Go.Pv
