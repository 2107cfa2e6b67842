import Derived.Test.YtinhldbfifpakaaGreatPxEntryImages19
set_option linter.unusedVariables false
set_option linter.unusedSimpArgs false
namespace Go.Pv
open Go.Pv.GS
theorem Zd7 (a:List UInt8):Op.bytesLess a []=false:=by cases a<;>rfl
theorem Zer (b:UInt8) (y:List UInt8):Op.bytesLess [] (b::y)=true:=rfl
theorem bl_cons (a b:UInt8) (x y:List UInt8):Op.bytesLess (a::x) (b::y)=(decide (a<b)||(a==b&&Op.bytesLess x y)):=rfl
theorem Zes:∀ a:List UInt8,Op.bytesLess a a=false
 | []=>rfl
 | a::x=>by rw[bl_cons,Zes x];simp[UInt8.lt_irrefl]
theorem bl_tri:∀ a b:List UInt8,Op.bytesLess a b=false→Op.bytesLess b a=false→a=b
 | [],[],_,_=>rfl
 | [],b::y,h,_=>by rw[Zer] at h;exact absurd h (by simp)
 | a::x,[],_,h=>by rw[Zer] at h;exact absurd h (by simp)
 | a::x,b::y,h1,h2=>by
  rw[bl_cons,Bool.or_eq_false_iff] at h1 h2;have e:a=b:=by
   have n1:¬ a<b:=by simpa using h1.1
   have n2:¬ b<a:=by simpa using h2.1
   exact UInt8.le_antisymm (UInt8.not_lt.1 n2) (UInt8.not_lt.1 n1)
  subst e;have g1:=h1.2;have g2:=h2.2;simp at g1 g2;rw[bl_tri x y g1 g2]
theorem bl_trans:∀ a b c:List UInt8,Op.bytesLess a b=true→Op.bytesLess b c=true→Op.bytesLess a c=true
 | a,[],c,h,_=>by rw[Zd7] at h;exact absurd h (by simp)
 | a,b::y,[],_,h=>by rw[Zd7] at h;exact absurd h (by simp)
 | [],b::y,c::z,_,_=>rfl
 | a::x,b::y,c::z,h1,h2=>by
  rw[bl_cons] at h1 h2 ⊢;simp only[Bool.or_eq_true,decide_eq_true_eq,Bool.and_eq_true,beq_iff_eq] at h1 h2 ⊢;rcases h1 with h1 | ⟨rfl,h1⟩
  ·rcases h2 with h2 | ⟨rfl,h2⟩
   ·exact .inl (UInt8.lt_trans h1 h2)
   ·exact .inl h1
  ·rcases h2 with h2 | ⟨rfl,h2⟩
   ·exact .inl h2
   ·exact .inr ⟨rfl,bl_trans x y z h1 h2⟩
theorem bl_asymm {a b:List UInt8} (h:Op.bytesLess a b=true):Op.bytesLess b a=false:=by
 cases e:Op.bytesLess b a with
 | false=>rfl
 | true=>have:=bl_trans a b a h e;rw[Zes] at this;exact absurd this (by simp)
theorem eqB (a b:ByteArray):(a.toList==b.toList)=decide (a=b):=by
 rw[Bool.eq_iff_iff,beq_iff_eq,decide_eq_true_eq,Za8,Za8];exact⟨fun h=>ext_L h,fun h=>by rw[h]⟩
abbrev bl (a b:ByteArray):Bool:=Op.bytesLess a.toList b.toList
theorem bl_tri' {a b:ByteArray} (h1:bl a b=false) (h2:bl b a=false):a=b:=by
 have:=bl_tri _ _ h1 h2;rw[Za8,Za8] at this;exact ext_L this
theorem bl_irrefl' (a:ByteArray):bl a a=false:=Zes _
end Go.Pv
