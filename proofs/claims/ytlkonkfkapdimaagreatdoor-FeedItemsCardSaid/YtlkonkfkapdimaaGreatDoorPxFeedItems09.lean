import Derived.Test.YtlkonkfkapdimaaGreatDoorPxFeedItems08
set_option linter.unusedVariables false
set_option linter.unusedSimpArgs false
namespace Go.Proofs.YtlkonkfkapdimaaGreatDoor.PvGR
open Go Go.Pv Go.Pv.GS
structure HOk (h:Zh):Prop where
 fits:Fits h
 valid:Valid h
theorem HOk.pos {h:Zh} (k:HOk h):BR h.f6:=⟨by have:=k.valid.pos.len;omega,k.fits.pos⟩
theorem HOk.neg {h:Zh} (k:HOk h):BR h.f7:=⟨by have:=k.valid.neg.len;omega,k.fits.neg⟩
theorem Z77 (k:Int):(Z3i k).length≤7:=by unfold Z3i;split<;>simp
theorem Z76 {h:Zh} (k:HOk h):(Z3p h.f2).length≤21:=by
 unfold Z3p;split
 ·simp
 ·exact Z2d (by have:=k.fits.zeroAt.1;omega) (by have:=k.fits.zeroAt.2;omega)
theorem HOk.s1 {h:Zh} (k:HOk h):(Lib.itoa h.f1).length≤21:=Z2d (by have:=k.fits.schema.1;omega) (by have:=k.fits.schema.2;omega)
theorem HOk.s3 {h:Zh} (k:HOk h):(Lib.itoa h.f3).length≤21:=Z2d (by have:=k.fits.zero.1;omega) (by have:=k.fits.zero.2;omega)
theorem HOk.s5 {h:Zh} (k:HOk h):(Lib.itoa h.f5).length≤21:=Z2d (by have:=k.fits.sum.1;omega) (by have:=k.fits.sum.2;omega)
theorem Z5y {h:Zh} (k:HOk h):(Z5g h).length≤60000:=by
 have h1:=Z2u k.pos;have h2:=Z2u k.neg;have h3:=Z77 h.f0;have h4:=Z76 k;have h5:=k.s1;have h6:=k.s3;have h7:=k.s5;simp[Z5g,Z5x,T];omega
theorem kind_at {h:Zh} (k:HOk h):at? gt0 h.f0=some (txt (Z3i h.f0)):=by
 rcases k.valid.kind with e | e<;>rw[e]<;>rfl
theorem kind_ix {h:Zh} (k:HOk h):Zs.f gt0 (txt (Z3i h.f0))=some h.f0:=by
 rcases k.valid.kind with e | e<;>rw[e]
 ·show                    Zs.f gt0 (⟨#[99,111,117,110,116,101,114]⟩:ByteArray)=some 0
  cbv
 ·show                    Zs.f gt0 (⟨#[103,97,117,103,101]⟩:ByteArray)=some 1
  cbv
theorem fHist_ok (h:Zh) (k:HOk h):Z1y.f h=some (txt (Z5g h),0):=by
 unfold Z1y.f;have zr:=k.fits.zeroAt;have h1:=Z2u k.pos;have h2:=Z2u k.neg;have h3:=Z77 h.f0;have h4:=Z76 k;have h5:=k.s1;have h6:=k.s3;have h7:=k.s5;have hz:((if(h.f2 != (-524288:Int))=true then((Z0o.f h.f2)>>=fun t2156=>some t2156) else(some (⟨#[110,111,110,101]⟩:ByteArray))):Option (ByteArray))=some (txt (Z3p h.f2)):=by
  by_cases e:h.f2 = -524288
  ·rw[if_neg (by simp[e]),Z3p,if_pos e];rfl
  ·rw[if_pos (by simpa using e),fmtA _ zr.1 zr.2,sb,Z3p,if_neg e]
 have z43:(⟨#[43]⟩:ByteArray).size=1:=rfl;have z45:(⟨#[45]⟩:ByteArray).size=1:=rfl;rw[check_T h k.fits k.valid,sb,if_neg (by simp),hz,sb,kind_at k,sb,fmtA _ k.fits.schema.1 k.fits.schema.2,sb,fmtU _ k.fits.zero.1 k.fits.zero.2,sb,fmtI _ k.fits.sum.1 k.fits.sum.2,sb,side_eq _ k.pos,sb,chkB (by rw[Z06,z43];omega),side_eq _ k.neg,sb,chkB (by rw[Z06,z45];omega)];have e1:(⟨#[43]⟩:ByteArray)++txt (Z1j h.f6)=txt (43::Z1j h.f6):=Z3m (by rw[Z1a,Z1n,Z1n];rfl);have e2:(⟨#[45]⟩:ByteArray)++txt (Z1j h.f7)=txt (45::Z1j h.f7):=Z3m (by rw[Z1a,Z1n,Z1n];rfl);rw[e1,e2,fjoin _ 32 (by simp) (fun w hw=>by
  simp only[List.mem_cons,List.not_mem_nil,or_false] at hw;rcases hw with rfl | rfl | rfl | rfl | rfl | rfl | rfl<;>rw[Z06]<;>(try simp only[List.length_cons])<;>omega),sb]
 simp only[List.map_cons,List.map_nil,Z1n];exact congrArg (fun l=>some (txt l,(0:Int))) (joinS_T 32 (Z5x h) (45::Z1j h.f7))
theorem fHist_no (h:Zh) {r:Int} (e:Zw.f h=some r) (hr:r≠0):Z1y.f h=some ((⟨#[]⟩:ByteArray),r):=by
 unfold Z1y.f;rw[e,sb,if_pos (by simpa using hr)]
theorem rHist_ok (h:Zh) (k:HOk h):Z26.f h=some (txt (Z5g h)):=by
 unfold Z26.f;have zr:=k.fits.zeroAt;have h1:=Z2u k.pos;have h2:=Z2u k.neg;have h3:=Z77 h.f0;have h4:=Z76 k;have h5:=k.s1;have h6:=k.s3;have h7:=k.s5;have z32:(⟨#[32]⟩:ByteArray).size=1:=rfl;have z2:(⟨#[32,43]⟩:ByteArray).size=2:=rfl;have z3:(⟨#[32,45]⟩:ByteArray).size=2:=rfl;have hk:((if(h.f0==(1:Int))=true then(some (⟨#[103,97,117,103,101,32]⟩:ByteArray)) else(some (⟨#[99,111,117,110,116,101,114,32]⟩:ByteArray))):Option (ByteArray))=some (txt (Z3i h.f0++[32])):=by
  by_cases e:h.f0=1
  ·rw[if_pos (by simp[e]),Z3i,if_pos e];rfl
  ·rw[if_neg (by simpa using e),Z3i,if_neg e];rfl
 have a1:∀ (a b:List UInt8),txt a++txt b=txt (a++b):=fun a b=>Z3m (by rw[Z1a,Z1n,Z1n,Z1n])
 have m32:(⟨#[32]⟩:ByteArray)=txt [32]:=rfl;have m2:(⟨#[32,43]⟩:ByteArray)=txt [32,43]:=rfl;have m3:(⟨#[32,45]⟩:ByteArray)=txt [32,45]:=rfl;have m4:(⟨#[110,111,110,101,32]⟩:ByteArray)=txt [110,111,110,101,32]:=rfl;rw[hk,sb,refW _ k.fits.schema.1 k.fits.schema.2,sb,m32,m2,m3,m4,a1,a1];simp only[Z06];rw[chkB (by simp;omega),chkB (by simp;omega)];have hz:((if(h.f2==(-524288:Int))=true then((chk ((((Z3i h.f0++[32]++Lib.itoa h.f1++[32]).length+([110,111,110,101,32]:List UInt8).length:Nat):Int)≤9223372036854775807))>>=fun _=>some (txt (Z3i h.f0++[32]++Lib.itoa h.f1++[32])++txt [110,111,110,101,32])) else((Z0q.f h.f2)>>=fun t2436=>(chk ((((Z3i h.f0++[32]++Lib.itoa h.f1++[32]).length+t2436.size:Nat):Int)≤9223372036854775807))>>=fun _=>(chk ((((txt (Z3i h.f0++[32]++Lib.itoa h.f1++[32])++t2436).size+([32]:List UInt8).length:Nat):Int)≤9223372036854775807))>>=fun _=>some ((txt (Z3i h.f0++[32]++Lib.itoa h.f1++[32])++t2436)++txt [32]))):Option (ByteArray))=some (txt (Z3i h.f0++[32]++Lib.itoa h.f1++[32]++(Z3p h.f2++[32]))):=by
  by_cases e:h.f2 = -524288
  ·rw[if_pos (by simp[e]),chkB (by simp;omega),Z3p,if_pos e,a1];rfl
  ·rw[if_neg (by simpa using e),refW _ zr.1 zr.2,sb]
   rw[Z3p,if_neg e] at h4;rw[chkB (by rw[Z06];simp;omega),a1,chkB (by rw[Z06];simp;omega),a1,Z3p,if_neg e];congr 2;simp
 have hx:(Z3i h.f0++[32]++Lib.itoa h.f1++[32]++(Z3p h.f2++[32])).length≤100:=by simp;omega
 rw[hz,sb,refC _ k.fits.zero.1 k.fits.zero.2,sb,refW _ k.fits.sum.1 k.fits.sum.2,rside_eq _ k.pos,rside_eq _ k.neg];simp only[sb,a1,Z06,List.length_append,List.length_cons,List.length_nil] at hx ⊢;rw[chkB (by omega),chkB (by omega),chkB (by omega),chkB (by omega),chkB (by omega),chkB (by omega),chkB (by omega)];congr 2;simp[Z5g,Z5x,T]
theorem join_mem {c s:UInt8}:∀ {ws:List (List UInt8)},c∈Z5v s ws→c=s∨∃ w∈ws,c∈w
 | [],h=>by simp[Z5v] at h
 | w::r,h=>by
  rcases List.mem_append.1 h with h | h
  ·exact .inr ⟨w,by simp,h⟩
  ·obtain⟨v,hv,h⟩:=List.mem_flatMap.1 h
   rcases List.mem_cons.1 h with h | h
   ·exact .inl h
   ·exact .inr ⟨v,by simp[hv],h⟩
theorem side_not {l:List Z2} {c:UInt8} (h:c.toNat<44∨58<c.toNat):c ∉ Z1j l:=by
 intro hc;rcases join_mem hc with e | ⟨w,hw,e⟩
 ·subst e;simp at h
 ·obtain⟨b,_,rfl⟩:=List.mem_map.1 hw
  rcases List.mem_append.1 e with e | e
  ·exact Z2v (by omega) e
  ·rcases List.mem_cons.1 e with e | e
   ·subst e;simp at h
   ·exact Z2v (by omega) e
theorem has_prefix (c:UInt8) (r:List UInt8):Z0d.f (txt (c::r)) (⟨#[c]⟩:ByteArray)=some true:=by
 unfold Z0d.f Z03.f;have z:(⟨#[c]⟩:ByteArray).size=1:=rfl;have e:(txt (c::r)).extract (Int.toNat 0) (Int.toNat ((1:Nat):Int))=(⟨#[c]⟩:ByteArray):=Z3m (by rw[Z1e,Z1n];rfl);rw[z,Z06,if_pos (by simp;omega),chkB (by simp;omega),e];simp[sb]
theorem make_id (h:Zh) (k:HOk h):Z37.f (⟨h.f0,h.f1,h.f2,h.f3,0,h.f5,[],[]⟩:Zh) h.f6 h.f7=some (h,0):=by
 unfold Z37.f;have l1:=k.valid.pos.len;have l2:=k.valid.neg.len;rw[tidy_id _ (by omega) (fun b hb=>(k.fits.pos b hb).2) k.valid.pos.canon,tidy_id _ (by omega) (fun b hb=>(k.fits.neg b hb).2) k.valid.neg.canon,sb,sb];dsimp only;rw[if_neg (by simp),total3 _ _ _ (by omega) (by omega) (fun b hb=>(k.fits.pos b hb).2) (fun b hb=>(k.fits.neg b hb).2) k.fits.zero,if_pos k.valid.total,sb];dsimp only;have hh:(⟨h.f0,h.f1,h.f2,h.f3,cnt h.f6+cnt h.f7+h.f3,h.f5,h.f6,h.f7⟩:Zh)=h:=by rw[← k.valid.count]
 rw[if_neg (by simp),hh,check_T h k.fits k.valid,sb,if_neg (by simp)]
theorem read_ok (h:Zh) (k:HOk h):Z2e.f (txt (Z5g h))=some (h,0):=by
 unfold Z2e.f;have zr:=k.fits.zeroAt;have hlen:=Z5y k;have h1:=Z2u k.pos;have h2:=Z2u k.neg;have sp:=split_eq (txt (Z5g h)) 32 (Z5x h) (45::Z1j h.f7) (Z1n _) (fun w hw=>by
  simp only[Z5x,List.mem_cons,List.not_mem_nil,or_false] at hw;rcases hw with rfl | rfl | rfl | rfl | rfl | rfl
  ·exact⟨by unfold Z3i;split<;>decide,by unfold Z3i;split<;>simp⟩
  ·exact⟨Z2v (by decide),Z4p _⟩
  ·refine⟨?_,?_⟩<;>(unfold Z3p  ;split)
   ·decide
   ·exact Z2v (by decide)
   ·simp
   ·exact Z4p _
  ·exact⟨Z2v (by decide),Z4p _⟩
  ·exact⟨Z2v (by decide),Z4p _⟩
  ·exact⟨fun q=>by
    rcases List.mem_cons.1 q with q | q
    ·exact absurd q (by decide)
    ·exact side_not (by decide) q,by simp⟩) (fun q=>by
    rcases List.mem_cons.1 q with q | q
    ·exact absurd q (by decide)
    ·exact side_not (by decide) q) (by rw[Z06];omega)
 simp only[Z5x,List.cons_append,List.nil_append,List.map_cons,List.map_nil] at sp;rw[sp,sb,if_neg (by simp)];simp only[show ∀ a b c d e f g:ByteArray,at? [a,b,c,d,e,f,g] 0=some a from fun _ _ _ _ _ _ _=>rfl,show ∀ a b c d e f g:ByteArray,at? [a,b,c,d,e,f,g] 1=some b from fun _ _ _ _ _ _ _=>rfl,show ∀ a b c d e f g:ByteArray,at? [a,b,c,d,e,f,g] 2=some c from fun _ _ _ _ _ _ _=>rfl,show ∀ a b c d e f g:ByteArray,at? [a,b,c,d,e,f,g] 3=some d from fun _ _ _ _ _ _ _=>rfl,show ∀ a b c d e f g:ByteArray,at? [a,b,c,d,e,f,g] 4=some e from fun _ _ _ _ _ _ _=>rfl,show ∀ a b c d e f g:ByteArray,at? [a,b,c,d,e,f,g] 5=some f from fun _ _ _ _ _ _ _=>rfl,show ∀ a b c d e f g:ByteArray,at? [a,b,c,d,e,f,g] 6=some g from fun _ _ _ _ _ _ _=>rfl,sb,has_prefix];rw[if_neg (show ¬ ((!true)=true) by simp),sb,if_neg (show ¬ ((!true)=true) by simp),kind_ix k,sb,Z43 _ h.f1 (Z1n _) k.fits.schema.1 k.fits.schema.2,sb,Z8y _ h.f3 (Z1n _) k.fits.zero.1 k.fits.zero.2,sb,Z43 _ h.f5 (Z1n _) k.fits.sum.1 k.fits.sum.2,sb];have x1:(txt (43::Z1j h.f6)).extract (Int.toNat (1:Int)) (Int.toNat ((txt (43::Z1j h.f6)).size:Int))=txt (Z1j h.f6):=Z3m (by rw[extract1 _ 43 (Z1j h.f6) (Z1n _),Z1n]);have x2:(txt (45::Z1j h.f7)).extract (Int.toNat (1:Int)) (Int.toNat ((txt (45::Z1j h.f7)).size:Int))=txt (Z1j h.f7):=Z3m (by rw[extract1 _ 45 (Z1j h.f7) (Z1n _),Z1n]);rw[chkB (by rw[Z06];simp;omega),x1,Z90 _ k.pos,sb,chkB (by rw[Z06];simp;omega),x2,Z90 _ k.neg,sb];dsimp only;have hk:decide (h.f0≥(0:Int))=true:=by rcases k.valid.kind with e | e<;>rw[e]<;>rfl
 rw[hk];simp only[sb,if_true];have hz:((if(!((txt (Z3p h.f2)).toList==(⟨#[110,111,110,101]⟩:ByteArray).toList))=true then((Z0k.f (txt (Z3p h.f2)))>>=fun t590=>((if t590.2=true then(some (t590.1 != (-524288:Int))) else(some false)):Option (Bool))>>=fun x596=>some (t590.1,x596)) else(some ((-524288:Int),true))):Option (Int×Bool))=some (h.f2,true):=by
  by_cases e:h.f2 = -524288
  ·rw[if_neg (by rw[Zt,Zt,Z1n,Z3p,if_pos e];decide),e]
  ·have hn:Lib.itoa h.f2≠[110,111,110,101]:=fun q=>by
    have:(110:UInt8)∈Lib.itoa h.f2:=by rw[q];simp
    exact Z2v (by decide) this
   rw[Z3p,if_neg e,if_pos (by rw[Zt,Zt,Z1n];simpa using hn),Z43 _ h.f2 (Z1n _) zr.1 zr.2,sb];dsimp only;rw[if_pos rfl,sb];simp[e]
 have l1:=k.valid.pos.len;have l2:=k.valid.neg.len;rw[hz,sb];dsimp only;rw[if_neg (by simp),make_id h k,sb];dsimp only;rw[if_neg (by simp),Z8x _ (by omega),sb,if_neg (by simp),Z8x _ (by omega),sb,sb,if_neg (by simp)]
end Go.Proofs.YtlkonkfkapdimaaGreatDoor.PvGR
