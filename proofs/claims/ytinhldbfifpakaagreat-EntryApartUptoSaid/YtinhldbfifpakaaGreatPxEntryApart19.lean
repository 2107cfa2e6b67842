import Derived.Test.YtinhldbfifpakaaGreatPxEntryApart18
set_option linter.unusedVariables false
set_option linter.unusedSimpArgs false
namespace Go.Pv
open Go.Pv.GS
theorem Zai (a:List UInt8):Op.bytesLess a []=false:=by cases a<;>rfl
theorem bl_cons (a b:UInt8) (x y:List UInt8):Op.bytesLess (a::x) (b::y)=(decide (a<b)||(a==b&&Op.bytesLess x y)):=rfl
theorem bl_trans:∀ a b c:List UInt8,Op.bytesLess a b=true→Op.bytesLess b c=true→Op.bytesLess a c=true
 | a,[],c,h,_=>by rw[Zai] at h;exact absurd h (by simp)
 | a,b::y,[],_,h=>by rw[Zai] at h;exact absurd h (by simp)
 | [],b::y,c::z,_,_=>rfl
 | a::x,b::y,c::z,h1,h2=>by
  rw[bl_cons] at h1 h2 ⊢
  simp only[Bool.or_eq_true,decide_eq_true_eq,Bool.and_eq_true,beq_iff_eq] at h1 h2 ⊢
  rcases h1 with h1 | ⟨rfl,h1⟩
  ·rcases h2 with h2 | ⟨rfl,h2⟩
   ·exact .inl (UInt8.lt_trans h1 h2)
   ·exact .inl h1
  ·rcases h2 with h2 | ⟨rfl,h2⟩
   ·exact .inl h2
   ·exact .inr ⟨rfl,bl_trans x y z h1 h2⟩
theorem eqB (a b:ByteArray):(a.toList==b.toList)=decide (a=b):=by
 rw[Bool.eq_iff_iff,beq_iff_eq,decide_eq_true_eq,Z7t,Z7t]
 exact⟨fun h=>ext_L h,fun h=>by rw[h]⟩
abbrev bl (a b:ByteArray):Bool:=Op.bytesLess a.toList b.toList
end Go.Pv
