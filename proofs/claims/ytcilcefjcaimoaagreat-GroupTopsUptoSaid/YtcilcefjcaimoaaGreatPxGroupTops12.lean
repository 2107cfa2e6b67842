import Derived.Test.YtcilcefjcaimoaaGreatPxGroupTops11
set_option linter.unusedVariables false
set_option linter.unusedSimpArgs false
namespace Go.Proofs.YtcilcefjcaimoaaGreat.PvGQ
open Go Go.Pv Go.Pv.GS
theorem light_ex (l:List Z00) (hl:l.length<10000000000000):∀ (m:Nat) (n i:Int),i=((l.length-m:Nat):Int)→m≤l.length→∃ r,Z1x.l0 l n i=some r:=by
 intro m
 induction m with
 | zero=>intro n i hi hm;rw[Z1x.l0,if_neg (by simp;omega)];exact⟨n,rfl⟩
 | succ m ih =>
  intro n i hi hm;rw[Z1x.l0,if_pos (by simp;omega),Z62 (k:=l.length-(m+1)) hi (List.getElem?_eq_getElem (by omega)),sb,Z08 (n:=i+1) (by omega) (by omega)];exact ih _ _ (by omega) (by omega)
theorem light10 (l:List Z00) (hl:l.length<10000000000000):∃ b,Z1x.f l=some b:=by
 unfold Z1x.f;obtain⟨r,e⟩:=light_ex l hl l.length 0 0 (by omega) (by omega);rw[e,sb];exact⟨_,rfl⟩
def getV:List Z00→ByteArray→ByteArray
 | [],_=>(⟨#[]⟩:ByteArray)
 | x::l,s=>if x.f0=s then x.f1 else getV l s
theorem get_l0 (l:List Z00) (s:ByteArray) (hl:l.length<10000000000000):∀ (suf pre:List Z00) (i:Int),l=pre++suf→i=(pre.length:Int) →
  (Z1l.l0 l s i=some (.inr ())∧getV suf s=(⟨#[]⟩:ByteArray))∨Z1l.l0 l s i=some (.inl (getV suf s)):=by
 intro suf
 induction suf with
 | nil=>intro pre i h1 hi;rw[Z1l.l0,if_neg (by rw[h1];simp[hi])];exact .inl ⟨rfl,rfl⟩
 | cons x suf ih =>
  intro pre i h1 hi;have hlen:l.length=pre.length+(suf.length+1):=by rw[h1];simp
  rw[Z1l.l0,if_pos (by simp;omega),Z2w h1 hi,sb,eqB,Z08 (by omega) (by omega),getV];by_cases e:x.f0=s
  ·rw[if_pos (by simpa using e),if_pos e];exact .inr rfl
  ·rw[if_neg (by simpa using e),if_neg e]
   exact ih (pre++[x]) (i+1) (by simp[h1]) (by simp;omega)
theorem lget (l:List Z00) (s:ByteArray) (hl:l.length<10000000000000):Z1l.f l s=some (getV l s):=by
 unfold Z1l.f;rcases get_l0 l s hl l [] 0 rfl rfl with ⟨q1,q2⟩ | q1
 ·rw[q1,sb,q2]
 ·rw[q1,sb]
end Go.Proofs.YtcilcefjcaimoaaGreat.PvGQ
