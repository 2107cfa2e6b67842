import Derived.Test.YtcilcefjcaimoaaGreatPxGroupOnes11
set_option linter.unusedVariables false
set_option linter.unusedSimpArgs false
namespace Go.Proofs.YtcilcefjcaimoaaGreat.PvGQ
open Go Go.Pv Go.Pv.GS
theorem light_ex (l:List Zo) (hl:l.length<10000000000000):∀ (m:Nat) (n i:Int),i=((l.length-m:Nat):Int)→m≤l.length→∃ r,Z35.l0 l n i=some r:=by
 intro m
 induction m with
 | zero=>intro n i hi hm;rw[Z35.l0,if_neg (by simp;omega)];exact⟨n,rfl⟩
 | succ m ih =>
  intro n i hi hm;rw[Z35.l0,if_pos (by simp;omega),Z6c (k:=l.length-(m+1)) hi (List.getElem?_eq_getElem (by omega)),sb,Zh (n:=i+1) (by omega) (by omega)];exact ih _ _ (by omega) (by omega)
theorem light10 (l:List Zo) (hl:l.length<10000000000000):∃ b,Z35.f l=some b:=by
 unfold Z35.f;obtain⟨r,e⟩:=light_ex l hl l.length 0 0 (by omega) (by omega);rw[e,sb];exact⟨_,rfl⟩
def memB (s:ByteArray):List ByteArray→Bool
 | []=>false
 | y::l=>decide (s=y)||memB s l
theorem memB_mem {s:ByteArray} {l:List ByteArray} (h:s∈l):memB s l=true:=by
 induction l with
 | nil=>simp at h
 | cons y l ih =>
  rw[memB];rcases List.mem_cons.1 h with rfl | h
  ·simp
  ·simp[ih h]
theorem contains_l0 (l:List ByteArray) (s:ByteArray) (hl:l.length<10000000000000):∀ (suf pre:List ByteArray) (i:Int),l=pre++suf→i=(pre.length:Int) →
  (memB s suf=false∧Z0k.l0 l s i=some (.inr ()))∨(memB s suf=true∧∃ k:Int,0≤k∧Z0k.l0 l s i=some (.inl k)):=by
 intro suf
 induction suf with
 | nil=>intro pre i h1 hi;rw[Z0k.l0,if_neg (by rw[h1];simp[hi])];exact .inl ⟨rfl,rfl⟩
 | cons x suf ih =>
  intro pre i h1 hi;have hlen:l.length=pre.length+(suf.length+1):=by rw[h1];simp
  rw[Z0k.l0,if_pos (by simp;omega),Z0t h1 hi,sb,eqB,Zh (by omega) (by omega)];by_cases e:s=x
  ·rw[if_pos (by simpa using e)]
   exact .inr ⟨by simp[memB,e],i,by omega,rfl⟩
  ·rw[if_neg (by simpa using e)]
   rcases ih (pre++[x]) (i+1) (by simp[h1]) (by simp;omega) with ⟨q1,q2⟩ | ⟨q1,q2⟩
   ·exact .inl ⟨by simp[memB,e,q1],q2⟩
   ·exact .inr ⟨by simp[memB,q1],q2⟩
theorem contains (l:List ByteArray) (s:ByteArray) (hl:l.length<10000000000000):Z1y.f l s=some (memB s l):=by
 unfold Z1y.f Z0k.f;rcases contains_l0 l s hl l [] 0 rfl rfl with ⟨q1,q2⟩ | ⟨q1,k,h0,q2⟩
 ·rw[q2,sb,sb];simp[q1]
 ·rw[q2,sb,sb];simp[q1,h0]
theorem by_inst (l:List Zo) (c:List ByteArray):Zu.f l c=deleteF.f (fun x=>Z2x.f x c) (⟨(⟨#[]⟩:ByteArray),(⟨#[]⟩:ByteArray)⟩:Zo) l:=by kernel_rfl
theorem lby (l:List Zo) (h:Fit l) (c:List ByteArray) (hc:c.length<10000000000000):Z4r.f l c=some (l.filter fun x=>memB x.f0 c):=by
 have hl:l.length<10000000000000:=by unfold Fit at h;omega
 unfold Z4r.f;rw[clone_l l h,sb,by_inst,Zcw (p:=fun x => !memB x.f0 c) (fun x=>by unfold Z2x.f;rw[contains c _ hc,sb]) _ _ hl,sb];simp
end Go.Proofs.YtcilcefjcaimoaaGreat.PvGQ
