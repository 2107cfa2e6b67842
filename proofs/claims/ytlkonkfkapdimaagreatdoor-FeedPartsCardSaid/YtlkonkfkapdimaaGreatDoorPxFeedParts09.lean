import Derived.Test.YtlkonkfkapdimaaGreatDoorPxFeedParts08
set_option linter.unusedVariables false
set_option linter.unusedSimpArgs false
namespace Go.Pv
open Go.Pv.GS
theorem Z6p (a:List UInt8):Op.bytesLess a []=false:=by cases a<;>rfl
theorem bl_cons (a b:UInt8) (x y:List UInt8):Op.bytesLess (a::x) (b::y)=(decide (a<b)||(a==b&&Op.bytesLess x y)):=rfl
theorem bl_trans:∀ a b c:List UInt8,Op.bytesLess a b=true→Op.bytesLess b c=true→Op.bytesLess a c=true
 | a,[],c,h,_=>by rw[Z6p] at h;exact absurd h (by simp)
 | a,b::y,[],_,h=>by rw[Z6p] at h;exact absurd h (by simp)
 | [],b::y,c::z,_,_=>rfl
 | a::x,b::y,c::z,h1,h2=>by
  rw[bl_cons] at h1 h2 ⊢;simp only[Bool.or_eq_true,decide_eq_true_eq,Bool.and_eq_true,beq_iff_eq] at h1 h2 ⊢;rcases h1 with h1 | ⟨rfl,h1⟩
  ·rcases h2 with h2 | ⟨rfl,h2⟩
   ·exact .inl (UInt8.lt_trans h1 h2)
   ·exact .inl h1
  ·rcases h2 with h2 | ⟨rfl,h2⟩
   ·exact .inl h2
   ·exact .inr ⟨rfl,bl_trans x y z h1 h2⟩
abbrev bl (a b:ByteArray):Bool:=Op.bytesLess a.toList b.toList
end Go.Pv
namespace Go.Pv.GS
section Defs
variable {α:Type} (pred:α→Option Bool) (z:α)
def indexF.l0 (a0:List α) (x30:Int):Option (Int ⊕ Unit):=if(decide (x30<(a0.length:Int)))=true then((at? a0 x30)>>=fun b37=>(pred b37)>>=fun t40=>if t40=true then(some (.inl x30)) else(indexF.l0 a0 (IntKind.i64.wrap (x30+(1:Int))))) else(some (.inr ()))
partial_fixpoint
def indexF.f (a0:List α):Option (Int):=(indexF.l0 pred a0 0)>>=fun oo=>match oo with | .inl rr=>(some rr) | .inr _=>(some (-1))
def deleteF.l0 (x70:List α) (x71:Int) (x72:Int):Option ((List α)×Int):=if(decide (x72<(x70.length:Int)))=true then((at? x70 x72)>>=fun b77=>(pred b77)>>=fun t82=>((if(!t82)=true then((at? x70 x71)>>=fun b88=>some (x70.set (Int.toNat (x71)) b77,IntKind.i64.wrap (x71+(1:Int)))) else(some (x70,x71))):Option ((List α)×Int))>>=fun oo=>match oo with | (x91,x92)=>(deleteF.l0 x91 x92 (IntKind.i64.wrap (x72+(1:Int))))) else(some (x70,x71))
partial_fixpoint
def deleteF.f (a0:List α):Option (List α):=(indexF.f pred a0)>>=fun t47=>if(t47==(-1))=true then(some a0) else((deleteF.l0 pred a0 t47 (IntKind.i64.wrap (t47+(1:Int))))>>=fun oo=>match oo with | (x93,x94)=>((chk (0≤x94∧x94≤(x93.length:Int)))>>=fun _=>(chk (0≤x94∧x94≤((x93.take (Int.toNat x94)++List.replicate (x93.length-(Int.toNat x94)) z).length:Int)))>>=fun _=>some ((x93.take (Int.toNat x94)++List.replicate (x93.length-(Int.toNat x94)) z).take (Int.toNat (x94)))))
end Defs
variable {α:Type} {pred:α→Option Bool} {p:α→Bool}
end Go.Pv.GS
