import Derived.Test.YtinhldbfifpakaaGreatPxEntryApart11
set_option linter.unusedVariables false
set_option linter.unusedSimpArgs false
namespace Go.Proofs.YtinhldbfifpakaaGreat.PvGL
open Go Go.Pv Go.Pv.GS Go.IntKind
theorem snoc_at' {α:Type} (l:List α) (x:α) (h:l.length<1000000000000):at? (l++[x]) (i64.wrap (((l++[x]).length:Int)-1))=some x:=by
 rw[List.length_append,List.length_singleton,Zf (by omega) (by omega)]
 exact Z1q (pre:=l) (suf:=[]) rfl (by omega)
theorem snoc_set' {α:Type} (l:List α) (x y:α) (h:l.length<1000000000000):(l++[x]).set (Int.toNat (i64.wrap (((l++[x]).length:Int)-1))) y=l++[y]:=by
 rw[List.length_append,List.length_singleton,Zf (by omega) (by omega),show(((l.length+1:Nat):Int)-1).toNat=l.length by omega]
 simp
theorem wbit {b:List Int} {f:Nat} {s:List Bool} (h:Laid b f s) (hl:s.length<1000000000) (x:Bool):∃ (b':List Int) (f':Nat),Z0s.f b (f:Int) x=some (b',(f':Int))∧Laid b' f' (s++[x]):=by
 have hlen:=h.len
 have hlt:=h.lt
 obtain⟨b0,y,f0,e,h0⟩:∃ (b0:List Int) (y:Int) (f0:Nat),(((if((f:Int)==(0:Int))=true then((chk ((b.length+[0].length)*1≤140737488355328))>>=fun _=>some (b++[0],8)) else(some (b,(f:Int)))):Option ((List Int)×Int))=some (b0++[y],((f0+1:Nat):Int)))∧Laid (b0++[y]) f0 (s++[false]):=by
  by_cases q:f=0
  ·subst q
   rw[if_pos (by simp),chkB (by simp;omega)]
   exact⟨b,0,7,rfl,h.new0⟩
  ·rw[if_neg (by simpa using q)]
   obtain⟨f0,rfl⟩:∃ f0,f=f0+1:=⟨f-1,by omega⟩
   have h':=h.old0
   rcases List.eq_nil_or_concat b with rfl | ⟨b0,y,rfl⟩
   ·simp at hlen
   ·rw[List.concat_eq_append] at *
    exact⟨b0,y,f0,rfl,h'⟩
 have hl0:b0.length<1000000000:=by have:=h0.lt;have:=h0.len;simp at this;omega
 have hf0:=h0.lt
 unfold Z0s.f
 rw[e,sb]
 dsimp only
 have w:u64.wrap (((f0+1:Nat):Int)-1)=(f0:Int):=by rw[Z40 (by omega) (by omega)];omega
 rw[w]
 cases x with
 | false=>rw[if_neg (by simp),sb];exact⟨_,_,rfl,h0⟩
 | true =>
  rw[if_pos rfl,snoc_at' _ _ (by omega),sb,chkB (by omega),sb,snoc_set' _ _ _ (by omega)]
  refine⟨_,_,rfl,?_⟩
  have:=h0.set1
  rw[orBit] at this
  exact this
theorem wput_l0 (n:Int) (hn0:0≤n) (hn:n<18446744073709551616):∀ (k:Nat) (b:List Int) (f:Nat) (s:List Bool),k≤64→s.length+k<1000000000→Laid b f s →
  ∃ (b':List Int) (f':Nat),Z0a.l0 n b (f:Int) ((k:Int)-1)=some (b',(f':Int))∧Laid b' f' (s++nb n.toNat k):=by
 intro k
 induction k with
 | zero =>
  intro b f s hk hl h
  rw[Z0a.l0,if_neg (by simp)]
  exact⟨b,f,rfl,by simpa[nb] using h⟩
 | succ k ih =>
  intro b f s hk hl h
  rw[show((k+1:Nat):Int)-1=(k:Int) by omega]
  rw[Z0a.l0,if_pos (by simp),Z40 (n:=(k:Int)) (by omega) (by omega),chkB (by omega),Int.toNat_natCast,bit_and hn0 hn k (by omega),Zf (n:=(k:Int)-1) (by omega) (by omega)]
  obtain⟨b1,f1,e1,h1⟩:=wbit h (by omega) (n.toNat.testBit k)
  rw[e1,sb]
  obtain⟨b2,f2,e2,h2⟩:=ih b1 f1 _ (by omega) (by simp;omega) h1
  exact⟨b2,f2,e2,by rw[nb];simpa using h2⟩
theorem wput {b:List Int} {f:Nat} {s:List Bool} (h:Laid b f s) (hl:s.length<900000000) {n:Int} (hn0:0≤n) (hn:n<18446744073709551616) {k:Nat} (hk:k≤64) :
  ∃ (b':List Int) (f':Nat),Z0a.f b (f:Int) n (k:Int)=some (b',(f':Int))∧Laid b' f' (s++nb n.toNat k):=by
 unfold Z0a.f
 have e:(if(if(64:Int)<(k:Int) then(64:Int) else(k:Int))>(0:Int) then(if(64:Int)<(k:Int) then(64:Int) else(k:Int)) else(0:Int))=(k:Int):=by
  by_cases q:(64:Int)<(k:Int)
  ·omega
  ·rw[if_neg q];by_cases q2:(k:Int)>0
   ·rw[if_pos q2]
   ·rw[if_neg q2];omega
 rw[e,Zf (by omega) (by omega)]
 obtain⟨b',f',e,h⟩:=wput_l0 n hn0 hn k b f s hk (by omega) h
 rw[e,sb]
 exact⟨b',f',rfl,h⟩
def blen:Nat→Nat
 | 0=>0
 | n+1=>blen ((n+1) / 2)+1
decreasing_by omega
theorem Zch {n:Nat} (h:0<n):blen n=blen (n / 2)+1:=by
 obtain⟨m,rfl⟩:∃ m,n=m+1:=⟨n-1,by omega⟩
 rw[blen]
theorem blen_le:∀ {k n:Nat},n<2 ^ k↔blen n≤k
 | 0,n=>by
  rcases Nat.eq_zero_or_pos n with rfl | h
  ·simp[blen]
  ·rw[Zch h];simp;omega
 | k+1,n=>by
  rcases Nat.eq_zero_or_pos n with rfl | h
  ·simp[blen,Nat.pow_pos]
  ·rw[Zch       h,Nat.pow_succ,Nat.add_le_add_iff_right,← blen_le (k:=k)]
   omega
theorem long_l0:∀ (k n:Nat) (a:Int),n<2 ^ k→0≤a→a+k≤1000→Z20.l0 (n:Int) a=some (a+blen n):=by
 intro k
 induction k with
 | zero=>intro n a h _ _;rw[show n=0 by simpa using h,Z20.l0,if_neg (by simp)];simp[blen]
 | succ k ih =>
  intro n a h h0 h1
  rcases Nat.eq_zero_or_pos n with rfl | hn
  ·rw[Z20.l0,if_neg (by simp)];simp[blen]
  ·rw[        Z20.l0,if_pos (by simp;omega),Int.fdiv_eq_ediv_of_nonneg _ (by omega),show(n:Int) / 2=((n / 2:Nat):Int) by omega,Zf     (by omega) (by omega)]
   rw[ih (n / 2) (a+1) (by rw[Nat.pow_succ] at h;omega) (by omega) (by omega),Zch hn];congr 1;omega
theorem Zbs {n:Nat} (h:n<18446744073709551616):Z20.f (n:Int)=some (blen n:Int):=by
 unfold Z20.f
 rw[long_l0 64 n 0 (by simpa using h) (by omega) (by omega),sb];simp
theorem blen64 {n:Nat} (h:n<18446744073709551616):blen n≤64:=blen_le.1 (by simpa using h)
def cls (k:Nat):Nat:=if k≤0 then 0 else if k≤3 then 1 else if k≤7 then 2 else if k≤12 then 3 else if k≤20 then 4 else if k≤32 then 5 else 6
def wid:Nat→Nat
 | 0=>0 | 1=>3 | 2=>7 | 3=>12 | 4=>20 | 5=>32 | _=>64
abbrev cl:List Int:=[0,3,7,12,20,32,64]
theorem cl_at:∀ i:Fin 7,cl[i.1]? = some ((wid i.1:Nat):Int):=by decide
theorem Z8h {i:Nat} (h:i<7):cl[i]? = some ((wid i:Nat):Int):=cl_at ⟨i,h⟩
theorem Zag    (k : Nat) : cls k < 7 := by unfold cls; repeat' split
                                           all_goals omega
theorem Zb5 (i:Nat):wid i≤64:=by unfold wid;split<;>omega
theorem le_wid {k:Nat} (h:k≤64):k≤wid (cls k):=by
 unfold cls;repeat' split
 all_goals simp only[wid];omega
theorem wid_lt {k i:Nat} (h:i<cls k):wid i<k:=by
 unfold cls at h
 have:i<6:=by have:=Zag k;unfold cls at this;omega
 rcases(show i=0∨i=1∨i=2∨i=3∨i=4∨i=5 by omega) with rfl | rfl | rfl | rfl | rfl | rfl<;>simp only[wid]<;>(revert h;repeat' split)<;>omega
theorem cls_of {k i:Nat} (h1:k≤wid i) (h2:∀ j,j<i→wid j<k) (hi:i<7):cls k=i:=by
 rcases Nat.lt_trichotomy (cls k) i with h | h | h
 ·have:=h2 _ h
  have h3:k≤64:=by have:=Zb5 i;omega
  have:=le_wid h3;omega
 ·exact h
 ·have:=wid_lt h;omega
theorem less_int (a b:Int):Z3z.f a b=some (decide (a<b)):=by
 unfold Z3z.f Z1k.f
 simp[sb]
theorem binI_l0 (t:Nat) (ht:t≤64):∀ (n i j:Nat),j-i≤n→i≤cls t→cls t≤j→j≤7→Z0f.l0 cl (t:Int) (i:Int) (j:Int)=some ((cls t:Nat):Int):=by
 intro n
 induction n with
 | zero =>
  intro i j h1 h2 h3 h4
  rw[Z0f.l0,if_neg (by simp;omega)]
  congr 2;omega
 | succ n ih =>
  intro i j h1 h2 h3 h4
  by_cases hij:i<j
  case neg=>rw[Z0f.l0,if_neg (by simp;omega)];congr 2;omega
  rw[Z0f.l0,if_pos (by simp;omega),half_eq (by omega),Z53 rfl (Z8h (by omega)),sb,less_int,sb]
  by_cases hlt:wid ((i+j) / 2)<t
  ·rw[if_pos (by simp;omega),sb,Zf     (by omega) (by omega)]
   refine ih ((i+j) / 2+1) j (by omega) ?_ h3 h4
   rcases Nat.lt_or_ge ((i+j) / 2) (cls t) with h | h
   ·exact h
   ·have:=le_wid ht
    have mono:wid (cls t)≤wid ((i+j) / 2):=by
     have a:=Zag t
     have hd:(i+j) / 2<7:=by omega
     generalize cls t=c at *
     generalize (i+j) / 2=d at *
     rcases(show c=0∨c=1∨c=2∨c=3∨c=4∨c=5∨c=6 by omega) with rfl | rfl | rfl | rfl | rfl | rfl | rfl <;>
     rcases(show d=0∨d=1∨d=2∨d=3∨d=4∨d=5∨d=6 by omega) with rfl | rfl | rfl | rfl | rfl | rfl | rfl<;>first | omega | (simp only[wid];omega)
    omega
  ·rw[if_neg (by simp;omega),sb]
   refine ih i ((i+j) / 2) (by omega) h2 ?_ (by omega)
   rcases Nat.lt_or_ge ((i+j) / 2) (cls t) with h | h
   ·exact absurd (wid_lt h) hlt
   ·exact h
theorem binI (t:Nat) (ht:t≤64):∃ b,Z0f.f cl (t:Int)=some (((cls t:Nat):Int),b):=by
 unfold Z0f.f
 have e:=binI_l0 t ht 7 0 7 (by omega) (by omega) (by have:=Zag t;omega) (by omega)
 rw[show((cl.length:Nat):Int)=((7:Nat):Int) from rfl,show(0:Int)=((0:Nat):Int) from rfl,e,sb,if_pos (by have:=Zag t;simp;omega),Z53 rfl (Z8h (Zag t)),sb]
 split
 ·exact⟨_,rfl⟩
 ·unfold                Z24.f
  simp only[sb,bne_self_eq_false]
  exact⟨_,rfl⟩
def cnt2 (n:Nat):List Bool:=List.replicate (cls (blen n)) true++((if cls (blen n)<6 then [false] else [])++nb n (wid (cls (blen n))))
theorem Z22 (n:Nat):(cnt2 n).length≤71:=by
 have:=Zag (blen n)
 have:=Zb5 (cls (blen n))
 simp only[cnt2,List.length_append,List.length_replicate,Z41]
 split<;>simp<;>omega
theorem wcount_l0 (n:Int) (c:List Int) (t:Int×Bool) (k:Nat) (ht:t.1=(k:Int)) (hk:k<100):∀ (m:Nat) (b:List Int) (f:Nat) (s:List Bool) (i:Int),i=((k-m:Nat):Int)→m≤k→s.length+m<1000000000→Laid b f s →
  ∃ (b':List Int) (f':Nat),Zb.l0 n c t b (f:Int) i=some (b',(f':Int))∧Laid b' f' (s++List.replicate m true):=by
 intro m
 induction m with
 | zero=>intro b f s i hi hm hl h;rw[Zb.l0,if_neg (by simp;omega)];exact⟨b,f,rfl,by simpa using h⟩
 | succ m ih =>
  intro b f s i hi hm hl h
  rw[Zb.l0,if_pos (by simp;omega),Zf (by omega) (by omega)]
  obtain⟨b1,f1,e1,h1⟩:=wbit h (by omega) true
  rw[e1,sb]
  obtain⟨b2,f2,e2,h2⟩:=ih b1 f1 _ (i+1) (by omega) (by omega) (by simp;omega) h1
  exact⟨b2,f2,e2,by rw[List.replicate_succ];simpa using h2⟩
theorem Z5d {b:List Int} {f:Nat} {s:List Bool} (h:Laid b f s) (hl:s.length<800000000) {n:Int} (hn0:0≤n) (hn:n<18446744073709551616) :
  ∃ (b':List Int) (f':Nat),Zb.f b (f:Int) n=some (b',(f':Int))∧Laid b' f' (s++cnt2 n.toNat):=by
 unfold Zb.f Z2j.f
 obtain⟨m,rfl⟩:=Int.eq_ofNat_of_zero_le hn0
 have hb:=blen64 (n:=m) (by omega)
 have hc:=Zag (blen m)
 obtain⟨t,ht⟩:=binI (blen m) hb
 rw[sb,Zbs (by omega),sb,ht,sb]
 obtain⟨b1,f1,e1,h1⟩:=wcount_l0 (m:Int) cl (((cls (blen m):Nat):Int),t) (cls (blen m)) rfl (by omega) (cls (blen m)) b f s 0 (by omega) (by omega) (by omega) h
 rw[e1,sb]
 dsimp only
 have w:i64.wrap (((cl.length:Nat):Int)-1)=6:=by decide
 rw[w]
 have hs:(s++List.replicate (cls (blen m)) true).length<1000000000:=by simp;omega
 rw[Int.toNat_natCast,cnt2,← List.append_assoc]
 by_cases h6:cls (blen m)<6
 ·obtain⟨b2,f2,e2,h2⟩:=wbit h1 hs false
  rw[if_pos (by simp;omega),e2,sb,sb,Z53 rfl (Z8h hc),sb]
  obtain⟨b3,f3,e3,h3⟩:=wput h2 (by simp;omega) (n:=(m:Int)) (by omega) hn (Zb5 (cls (blen m)))
  dsimp only
  rw[e3,sb,if_pos h6]
  exact⟨b3,f3,rfl,by simpa using h3⟩
 ·rw[if_neg (by simp;omega),sb]
  dsimp only
  rw[Z53 rfl (Z8h hc),sb]
  obtain⟨b3,f3,e3,h3⟩:=wput h1 (by simp;omega) (n:=(m:Int)) (by omega) hn (Zb5 (cls (blen m)))
  rw[e3,sb,if_neg h6]
  exact⟨b3,f3,rfl,by simpa using h3⟩
end Go.Proofs.YtinhldbfifpakaaGreat.PvGL
set_option linter.unusedVariables false
set_option linter.unusedSimpArgs false
namespace Go.Proofs.YtinhldbfifpakaaGreat.PvGL
open Go Go.Pv Go.Pv.GS Go.IntKind
theorem Zdg:∀ (l:List Int) (q r:Nat),r<8→(Zz l)[8*q+r]? = (l[q]?).bind fun x=>(Z5i x)[r]?
 | [],q,r,h=>by simp[Zz]
 | x::l,0,r,h=>by
  rw[Z7c,List.getElem?_append_left (by rw[Z5h];omega)];simp
 | x::l,q+1,r,h=>by
  rw[Z7c,List.getElem?_append_right (by rw[Z5h];omega),Z5h,show 8*(q+1)+r-8=8*q+r by omega,Zdg l q r h];simp
structure Src (b:List Int):Prop where
 byte:∀ x∈b,Byte x
 len:b.length<100000000
variable {b:List Int}
theorem Z71 (hb:Src b) {a:Nat} {x:Bool} (h:(Zz b)[a]? = some x):Z0b.f b (a:Int) 0=some (x,((a+1:Nat):Int),0):=by
 have hl:=hb.len
 have ha:a<8*b.length:=by rw[← Z0j];exact(List.getElem?_eq_some_iff.1 h).1
 unfold Z0b.f
 have htm:Int.tmod (a:Int) 8=((a % 8:Nat):Int):=by rw[Int.tmod_eq_emod_of_nonneg (by omega)];omega
 have htd:Int.tdiv (a:Int) 8=((a / 8:Nat):Int):=by rw[Int.tdiv_eq_ediv_of_nonneg (by omega)];omega
 have hq:a / 8<b.length:=by omega
 have hx:=Zdg b (a / 8) (a % 8) (by omega)
 rw[show 8*(a / 8)+a % 8=a by omega,h,List.getElem?_eq_getElem hq,Option.bind_some] at hx
 have hy:=hb.byte _ (List.getElem_mem hq)
 have hg:=getBit_eq hy (f:=7-a % 8) (by omega)
 rw[show 7-(7-a % 8)=a % 8 by omega,← hx] at hg
 have hg':=Option.some.inj hg
 rw[if_neg (by simp),Zf (by omega) (by omega),sb,if_neg (by simp;omega),htd,Zf (n:=((a / 8:Nat):Int)) (by omega) (by omega),Z53 rfl (List.getElem?_eq_getElem hq),sb,htm,Z40 (n:=((a % 8:Nat):Int)) (by omega) (by omega),
  Z40 (n:=(7:Int)-((a % 8:Nat):Int)) (by omega) (by omega),chkB (by omega),show Int.toNat ((7:Int)-((a % 8:Nat):Int))=7-a % 8 by omega,Zf (n:=(a:Int)+1) (by omega) (by omega)]
 rw[getBit] at hg'
 rw[hg'];rfl
theorem rbit_end (hb:Src b) {a:Nat} (h:8*b.length≤a):Z0b.f b (a:Int) 0=some (false,(a:Int),7):=by
 have hl:=hb.len
 unfold Z0b.f Zx.f
 rw[if_neg (by simp),Zf (by omega) (by omega),sb,if_pos (by simp;omega),if_pos (by simp),sb,sb]
theorem rbit_bad {a e:Int} (h:e≠0):Z0b.f b a e=some (false,a,e):=by
 unfold Z0b.f Zx.f
 rw[if_pos (by simpa using h),sb,if_pos rfl,if_neg (by simpa using h),sb,sb]
theorem Za8 {a e:Int}:Zx.f b a 0 e=some e:=by unfold Zx.f;rw[if_pos (by simp),sb]
theorem rfail1 {a x e:Int} (h:x≠0):Zx.f b a x e=some x:=by unfold Zx.f;rw[if_neg (by simpa using h),sb]
theorem clamp {k:Nat} (hk:k≤64):(if(if(64:Int)<(k:Int) then(64:Int) else(k:Int))>(0:Int) then(if(64:Int)<(k:Int) then(64:Int) else(k:Int)) else(0:Int))=(k:Int):=by
 by_cases q:(64:Int)<(k:Int)
 ·omega
 ·rw[if_neg q];by_cases q2:(k:Int)>0
  ·rw[if_pos q2]
  ·rw[if_neg q2];omega
theorem Zd6 (k:Nat) (hk:k≤64) {a e:Int} (he:e≠0):∀ (m:Nat) (n i:Int),i=((k-m:Nat):Int)→m≤k→∃ n',Zk.l0 b (k:Int) a e n i=some (a,e,n'):=by
 intro m
 induction m with
 | zero=>intro n i hi hm;rw[Zk.l0,clamp hk,if_neg (by simp;omega)];exact⟨n,rfl⟩
 | succ m ih =>
  intro n i hi hm
  rw[Zk.l0,clamp hk,if_pos (by simp;omega),rbit_bad he,sb,if_neg (by simp),sb,Zf (by omega) (by omega)]
  exact ih _ _ (by omega) (by omega)
theorem get_bad {k:Nat} (hk:k≤64) {a e:Int} (he:e≠0):Zk.f b a e (k:Int)=some (0,a,e):=by
 unfold Zk.f
 obtain⟨n,h⟩:=Zd6 (b:=b) k hk he k 0 0 (by omega) (by omega) (a:=a)
 rw[h,sb]
 dsimp only
 rw[if_pos (by simpa using he)]
theorem get_l0 (hb:Src b) (k:Nat) (hk:k≤64):∀ (m:Nat) (s:List Bool) (a:Nat) (i:Int),i=((k-m:Nat):Int)→m≤k→s.length=k-m→a≤8*b.length →
  (a+m≤8*b.length∧Zk.l0 b (k:Int) (a:Int) 0 ((val s:Nat):Int) i=some (((a+m:Nat):Int),0,((val (s++((Zz b).drop a).take m):Nat):Int))) ∨
  (8*b.length<a+m∧∃ n',Zk.l0 b (k:Int) (a:Int) 0 ((val s:Nat):Int) i=some (((8*b.length:Nat):Int),7,n')):=by
 intro m
 induction m with
 | zero =>
  intro s a i hi hm hs ha
  rw[Zk.l0,clamp hk,if_neg (by simp;omega)]
  exact .inl ⟨by omega,by simp⟩
 | succ m ih =>
  intro s a i hi hm hs ha
  rw[Zk.l0,clamp hk,if_pos (by simp;omega)]
  by_cases h:a<8*b.length
  ·have hlt:a<(Zz     b).length:=by rw[Z0j       ];exact h
   rw[Z71 hb (List.getElem?_eq_getElem hlt),sb,Zf (by omega) (by omega)]
   have hv:=Zct s
   have hp:2 ^ s.length≤2 ^ 63:=Nat.pow_le_pow_right (by omega) (by omega)
   have e1:((if(Zz b)[a]=true then(some (u64.wrap (((BitVec.toNat (BitVec.ofInt 64 (u64.wrap (((val s:Nat):Int)*2)) ||| BitVec.ofInt 64 (1)):Nat):Int)))) else(some (u64.wrap (((val s:Nat):Int)*2)))):Option Int)=some ((val (s++[(Zz b)[a]]):Nat):Int):=by
    rw[Zat]
    cases (Zz b)[a] with
    | true=>rw[if_pos rfl,or_one (by omega) (by omega)];congr 1
    | false=>rw[if_neg (by simp),Z40 (by omega) (by omega)];congr 1;simp;omega
   dsimp only
   rw[e1,sb]
   have e2:s++((Zz b).drop a).take (m+1)=(s++[(Zz b)[a]])++((Zz b).drop (a+1)).take m:=by
    rw[List.drop_eq_getElem_cons hlt,List.take_succ_cons];simp
   rcases ih (s++[(Zz b)[a]]) (a+1) (i+1) (by omega) (by omega) (by simp;omega) (by omega) with ⟨h1,h2⟩ | ⟨h1,n',h2⟩
   ·exact .inl ⟨by omega,by rw[h2,e2];congr 2;omega⟩
   ·exact .inr ⟨by omega,n',h2⟩
  ·rw[rbit_end hb (by omega),sb,if_neg (by simp),sb,Zf     (by omega) (by omega)]
   obtain⟨n',h2⟩:=Zd6 (b:=b) k hk (a:=(a:Int)) (e:=7) (by omega) m (u64.wrap (((val s:Nat):Int)*2)) (i+1) (by omega) (by omega)
   exact .inr ⟨by omega,n',by rw[show a=8*b.length by omega] at h2 ⊢;exact h2⟩
theorem Z9e (hb:Src b) {k:Nat} (hk:k≤64) {a:Nat} (ha:a≤8*b.length) :
  (a+k≤8*b.length∧Zk.f b (a:Int) 0 (k:Int)=some (((val (((Zz b).drop a).take k):Nat):Int),((a+k:Nat):Int),0)) ∨
  (8*b.length<a+k∧Zk.f b (a:Int) 0 (k:Int)=some (0,((8*b.length:Nat):Int),7)):=by
 unfold Zk.f
 rcases get_l0 hb k hk k [] a 0 (by omega) (by omega) (by simp) ha with ⟨h1,h2⟩ | ⟨h1,n',h2⟩
 ·left
  refine⟨h1,?_⟩
  rw[show Zk.l0 b (k:Int) (a:Int) 0 0 0=_ from h2,sb]
  dsimp only
  rw[if_neg (by simp),List.nil_append]
 ·right
  refine⟨h1,?_⟩
  rw[show Zk.l0 b (k:Int) (a:Int) 0 0 0=_ from h2,sb]
  dsimp only
  rw[if_pos (by simp)]
theorem six:i64.wrap (((cl.length:Nat):Int)-1)=6:=by decide
theorem ones_l0 (hb:Src b):∀ (m i a:Nat),i+m=6→a≤8*b.length→∃ (c a1:Nat) (e:Int),Zo.l0 b cl (a:Int) 0 (i:Int)=some ((a1:Int),e,(c:Int))∧i≤c∧c≤6∧a1≤8*b.length ∧
  ((e=0∧(Zz b).drop a=List.replicate (c-i) true++((if c<6 then [false] else [])++(Zz b).drop a1))∨e≠0):=by
 intro m
 induction m with
 | zero =>
  intro i a hi ha
  rw[Zo.l0,six,if_neg (by simp;omega),sb]
  dsimp only
  rw[if_neg (by simp)]
  exact⟨i,a,0,rfl,by omega,by omega,ha,.inl ⟨rfl,by rw[if_neg (by omega)];simp⟩⟩
 | succ m ih =>
  intro i a hi ha
  rw[Zo.l0,six,if_pos (by simp;omega)]
  by_cases h:a<8*b.length
  ·have hlt:a<(Zz     b).length:=by rw[Z0j       ];exact h
   rw[Z71 hb (List.getElem?_eq_getElem hlt),sb,sb]
   dsimp only
   cases e1:(Zz b)[a] with
   | true =>
    rw[if_pos rfl,Zf (by omega) (by omega)]
    obtain⟨c,a1,e,h1,h2,h3,h4,h5⟩:=ih (i+1) (a+1) (by omega) (by omega)
    refine⟨c,a1,e,h1,by omega,h3,h4,?_⟩
    rcases h5 with ⟨h5,h6⟩ | h5
    ·refine .inl ⟨h5,?_⟩
     rw[List.drop_eq_getElem_cons hlt,e1,h6,show c-i=(c-(i+1))+1 by omega,List.replicate_succ,List.cons_append]
    ·exact .inr h5
   | false =>
    rw[if_neg (by simp)]
    exact⟨i,a+1,0,rfl,by omega,by omega,by omega,.inl ⟨rfl,by rw[if_pos (by omega),List.drop_eq_getElem_cons hlt,e1];simp⟩⟩
  ·rw[rbit_end hb (by omega),sb,sb]
   dsimp only
   rw[if_neg (by simp)]
   exact⟨i,a,7,rfl,by omega,by omega,ha,.inr (by omega)⟩
theorem ones_fwd (hb:Src b) (c:Nat) (hc:c≤6) (t:List Bool):∀ (m i a:Nat),i+m=c→(Zz b).drop a=List.replicate m true++((if c<6 then [false] else [])++t) →
  Zo.l0 b cl (a:Int) 0 (i:Int)=some (((a+m+(if c<6 then 1 else 0):Nat):Int),0,(c:Int)):=by
 intro m
 induction m with
 | zero =>
  intro i a hi h
  rw[Zo.l0,six]
  by_cases h6:c<6
  ·rw[if_pos h6] at h
   have hx:(Zz b)[a]? = some false:=by
    have:=congrArg (fun l=>l[0]?) h
    simpa using this
   rw[if_pos (by simp;omega),Z71 hb hx,sb,sb]
   dsimp only
   rw[if_neg (by simp),if_pos h6,show i=c by omega]
  ·rw[if_neg (by simp;omega),sb]
   dsimp only
   rw[if_neg (by simp),if_neg h6,show i=c by omega];rfl
 | succ m ih =>
  intro i a hi h
  have hx:(Zz b)[a]? = some true:=by
   have:=congrArg (fun l=>l[0]?) h
   simpa[List.replicate_succ] using this
  have hlt:=(List.getElem?_eq_some_iff.1 hx).1
  have hn:(Zz b).drop (a+1)=List.replicate m true++((if c<6 then [false] else [])++t):=by
   have:=congrArg List.tail h
   rw[List.tail_drop,List.replicate_succ,List.cons_append,List.tail_cons] at this
   exact this
  rw[Zo.l0,six,if_pos (by simp;omega),Z71 hb hx,sb,sb]
  dsimp only
  rw[if_pos rfl,Zf (by omega) (by omega)]
  have:=ih (i+1) (a+1) (by omega) hn
  rw[show((i:Int)+1)=((i+1:Nat):Int) by omega,this]
  congr 2;omega
theorem ones_bad {a e:Int} (he:e≠0):Zo.l0 b cl a e 0=some (a,e,0):=by
 rw[Zo.l0,six,if_pos (by simp),rbit_bad he,sb,sb]
 dsimp only
 rw[if_neg (by simp)]
theorem count_bad {a e:Int} (he:e≠0):Zo.f b a e=some (0,a,e):=by
 unfold Zo.f Z2j.f
 rw[sb,ones_bad he,sb]
 dsimp only
 rw[show at? cl 0=some ((0:Nat):Int) from rfl,sb,get_bad (by omega) he,sb,if_neg (by simp),sb,if_neg (by simp),sb,if_pos (by simpa using he)]
theorem Zc8 (hb:Src b) {n:Nat} (hn:n<18446744073709551616) {a:Nat} {t:List Bool} (ha:a≤8*b.length) (h:(Zz b).drop a=cnt2 n++t) :
  Zo.f b (a:Int) 0=some ((n:Int),((a+(cnt2 n).length:Nat):Int),0):=by
 have hc:=Zag (blen n)
 have hlen:=congrArg List.length h
 rw[List.length_drop,Z0j,List.length_append] at hlen
 rw[cnt2,List.append_assoc,List.append_assoc] at h
 unfold Zo.f Z2j.f
 rw[sb,show Zo.l0 b cl (a:Int) 0 0=_ from ones_fwd hb (cls (blen n)) (by omega) _ (cls (blen n)) 0 a (by omega) h,sb]
 dsimp only
 rw[Z53 rfl (Z8h hc),sb]
 generalize hp:a+cls (blen n)+(if cls (blen n)<6 then 1 else 0)=p
 have hcl:(cnt2 n).length=cls (blen n)+(if cls (blen n)<6 then 1 else 0)+wid (cls (blen n)):=by
  rw[cnt2,List.length_append,List.length_append,List.length_replicate,Z41];split<;>simp<;>omega
 have hd:(Zz b).drop p=nb n (wid (cls (blen n)))++t:=by
  have:=congrArg (List.drop (cls (blen n)+(if cls (blen n)<6 then 1 else 0))) h
  rw[List.drop_drop,← Nat.add_assoc,hp,← List.append_assoc,List.drop_left' (by rw[List.length_append,List.length_replicate];split<;>simp)] at this
  exact this
 have hpa:p+wid (cls (blen n))=a+(cnt2 n).length:=by omega
 have hmod:n % 2 ^ wid (cls (blen n))=n:=Nat.mod_eq_of_lt (blen_le.2 (le_wid (blen64 hn)))
 rcases Z9e hb (Zb5 (cls (blen n))) (a:=p) (by omega) with ⟨_,h2⟩ | ⟨h1,_⟩
 case inr=>omega
 rw[hd,List.take_left' (Z41 ..),Zcs,hmod] at h2
 rw[h2,sb]
 dsimp only
 by_cases h0:cls (blen n)=0
 ·rw[if_neg (by simp[h0]),sb,if_neg (by simp),sb,if_neg (by simp),hpa]
 ·rw[if_pos (by simp;omega),Zbs hn,sb,Zf (by omega) (by omega),Z53 (k:=cls (blen n)-1) (by omega) (Z8h (by omega)),sb,sb,
   if_neg (by have:=wid_lt (k:=blen n) (i:=cls (blen n)-1) (by omega);simp;omega),sb,if_neg (by simp),hpa]
theorem wid_mono {i j:Nat} (h:i≤j):wid i≤wid j:=by
 rcases Nat.lt_or_ge j 6 with hj | hj
 ·have hall:∀ j:Fin 6,∀ i:Fin 6,i.1≤j.1→wid i.1≤wid j.1:=by decide
  exact hall ⟨j,hj⟩ ⟨i,by omega⟩ h
 ·obtain⟨k,rfl⟩:∃ k,j=k+6:=⟨j-6,by omega⟩
  exact Zb5 i
theorem Zc7 (hb:Src b) {a:Nat} (ha:a≤8*b.length):∃ (n a1:Nat) (e:Int),Zo.f b (a:Int) 0=some ((n:Int),(a1:Int),e)∧a1≤8*b.length∧n<18446744073709551616 ∧
  ((e=0∧(Zz b).drop a=cnt2 n++(Zz b).drop a1)∨(e≠0∧n=0)):=by
 unfold Zo.f Z2j.f
 obtain⟨c,p,e,h1,h2,h3,h4,h5⟩:=ones_l0 hb 6 0 a rfl ha
 rw[sb,show Zo.l0 b cl (a:Int) 0 0=_ from h1,sb]
 dsimp only
 rw[Z53 rfl (Z8h (by omega)),sb]
 have hw:=Zb5 c
 by_cases he:e=0
 case neg =>
  have hfin:∀ x:Bool,(((if x=true then((Zx.f b (p:Int) e 6)>>=fun t3827=>some t3827) else(some e)):Option (Int))>>=fun x3829=>if(x3829 != (0:Int))=true then(some ((0:Int),(p:Int),x3829)) else(some ((0:Int),(p:Int),x3829)))=some (((0:Nat):Int),(p:Int),e):=fun x=>by
   have:((if x=true then((Zx.f b (p:Int) e 6)>>=fun t3827=>some t3827) else(some e)):Option (Int))=some e:=by
    cases x
    ·rw[if_neg (by simp)]
    ·rw[if_pos rfl,rfail1 he,sb]
   rw[this,sb,if_pos (by simpa using he)];rfl
  refine⟨0,p,e,?_,h4,by omega,.inr ⟨he,rfl⟩⟩
  rw[get_bad hw he,sb]
  dsimp only
  by_cases h0:c=0
  ·rw[if_neg (by simp[h0]),sb];exact hfin _
  ·rw[if_pos (by simp;omega),show Z20.f 0=_ from Zbs (n:=0) (by omega),sb,Zf (by omega) (by omega),Z53 (k:=c-1) (by omega) (Z8h (by omega)),sb,sb];exact hfin _
 subst he
 rcases h5 with ⟨_,h5⟩ | h5
 case inr=>exact absurd rfl h5
 rcases Z9e hb hw h4 with ⟨g1,g2⟩ | ⟨g1,g2⟩
 case inr =>
  rw[g2,sb]
  dsimp only
  refine⟨0,8*b.length,7,?_,by omega,by omega,.inr ⟨by omega,rfl⟩⟩
  have hfin:∀ x:Bool,(((if x=true then((Zx.f b ((8*b.length:Nat):Int) 7 6)>>=fun t3827=>some t3827) else(some 7)):Option (Int))>>=fun x3829=>if(x3829 != (0:Int))=true then(some ((0:Int),((8*b.length:Nat):Int),x3829)) else(some ((0:Int),((8*b.length:Nat):Int),x3829)))=some (((0:Nat):Int),((8*b.length:Nat):Int),7):=fun x=>by
   have:((if x=true then((Zx.f b ((8*b.length:Nat):Int) 7 6)>>=fun t3827=>some t3827) else(some 7)):Option (Int))=some 7:=by
    cases x
    ·rw[if_neg (by simp)]
    ·rw[if_pos rfl,rfail1 (by omega),sb]
   rw[this,sb,if_pos (by simp)];rfl
  by_cases h0:c=0
  ·rw[if_neg (by simp[h0]),sb];exact hfin _
  ·rw[if_pos (by simp;omega),show Z20.f 0=_ from Zbs (n:=0) (by omega),sb,Zf (by omega) (by omega),Z53 (k:=c-1) (by omega) (Z8h (by omega)),sb,sb];exact hfin _
 rw[g2,sb]
 dsimp only
 generalize hs:((Zz b).drop p).take (wid c)=s
 have hsl:s.length=wid c:=by rw[← hs,List.length_take,List.length_drop,Z0j];omega
 have hv:=Zct s
 have hv2:2 ^ s.length≤2 ^ 64:=Nat.pow_le_pow_right (by omega) (by omega)
 have hn:val s<18446744073709551616:=by omega
 have hbl:blen (val s)≤wid c:=by rw[← hsl];exact blen_le.1 hv
 have hdrop:(Zz b).drop p=s++(Zz b).drop (p+wid c):=by rw[← hs,← List.drop_drop,List.take_append_drop]
 have good:(∀ j,j<c→wid j<blen (val s))→(Zz b).drop a=cnt2 (val s)++(Zz b).drop (p+wid c):=fun hlt=>by
  have hcls:=cls_of hbl hlt (by omega)
  rw[h5,hdrop,cnt2,hcls,← hsl,nb_val,Nat.sub_zero];simp
 by_cases h0:c=0
 ·rw[if_neg (by simp[h0]),sb,if_neg (by simp),sb,if_neg (by simp)]
  exact⟨val s,p+wid c,0,rfl,by omega,hn,.inl ⟨rfl,good (fun j hj=>by omega)⟩⟩
 ·rw[if_pos (by simp;omega),Zbs     hn,sb,Zf     (by omega) (by omega),Z53    (k:=c-1) (by omega) (Z8h    (by omega)),sb,sb]
  by_cases hl:blen (val s)≤wid (c-1)
  ·rw[if_pos (by simp;omega),Za8   ,sb,sb,if_pos (by simp)]
   exact⟨0,p+wid c,6,rfl,by omega,by omega,.inr ⟨by omega,rfl⟩⟩
  ·rw[if_neg (by simp;omega),sb,if_neg (by simp)]
   refine⟨val s,p+wid c,0,rfl,by omega,hn,.inl ⟨rfl,good (fun j hj => ?_)⟩⟩
   have:=wid_mono (i:=j) (j:=c-1) (by omega)
   omega
theorem Z5v {a e m:Int} (he:e≠0):Z4.f b a e m=some (0,a,e):=by
 unfold Z4.f
 rw[count_bad he,sb]
 have:((if(decide (m<(0:Int)))=true then(some true) else(some (decide ((0:Int)>(u64.wrap (m)))))):Option (Bool))=some (decide (m<0)):=by
  by_cases h:m<0
  ·simp[h]
  ·rw[if_neg (by simpa using h)]
   have:=(Z67 m).1
   simp[h];omega
 rw[this,sb]
 by_cases h:m<0
 ·rw[if_pos (by simpa using h),rfail1 he,sb]
 ·rw[if_neg (by simpa using h),show i64.wrap 0=0 by decide]
theorem Z3l (hb:Src b) {n m:Nat} (hn:n≤m) (hm:m<9223372036854775808) {a:Nat} {t:List Bool} (ha:a≤8*b.length) (h:(Zz b).drop a=cnt2 n++t) :
  Z4.f b (a:Int) 0 (m:Int)=some ((n:Int),((a+(cnt2 n).length:Nat):Int),0):=by
 unfold Z4.f
 rw[Zc8 hb (by omega) ha h,sb,if_neg (by simp),Z40 (by omega) (by omega),sb,if_neg (by simp;omega),Zf (by omega) (by omega)]
theorem Z4w (hb:Src b) {m:Nat} (hm:m<9223372036854775808) {a:Nat} (ha:a≤8*b.length):∃ (n a1:Nat) (e:Int),Z4.f b (a:Int) 0 (m:Int)=some ((n:Int),(a1:Int),e)∧a1≤8*b.length∧n≤m ∧
  ((e=0∧(Zz b).drop a=cnt2 n++(Zz b).drop a1)∨(e≠0∧n=0)):=by
 unfold Z4.f
 obtain⟨n,a1,e,h1,h2,h3,h4⟩:=Zc7 hb ha
 rw[h1,sb,if_neg (by simp),Z40 (by omega) (by omega),sb]
 dsimp only
 by_cases h:n≤m
 ·rw[if_neg (by simp;omega),Zf     (by omega) (by omega)]
  exact⟨n,a1,e,rfl,h2,h,h4⟩
 ·rw[if_pos (by simp;omega)]
  rcases h4 with ⟨rfl,_⟩ | ⟨_,h5⟩
  ·rw[Za8   ,sb]
   exact⟨0,a1,9,rfl,h2,by omega,.inr ⟨by omega,rfl⟩⟩
  ·omega
end Go.Proofs.YtinhldbfifpakaaGreat.PvGL
set_option linter.unusedVariables false
set_option linter.unusedSimpArgs false
set_option maxRecDepth 10000
namespace Go.Proofs.YtinhldbfifpakaaGreat.PvGL
open Go Go.Pv Go.Pv.GS Go.IntKind
def zig (a:Int):Nat:=if 0≤a then(2*a).toNat else(-2*a-1).toNat
theorem zig_lt {a:Int} (h:I64 a):zig a<18446744073709551616:=by unfold zig;split<;>omega
def intB (a:Int):List Bool:=cnt2 (zig a)
theorem Z5o (a:Int):(intB a).length≤71:=Z22 _
theorem Z4y {n:Nat} (h:n<18446744073709551616):(BitVec.ofInt 64 (n:Int)).toNat=n:=by
 rw[BitVec.ofInt_natCast,BitVec.toNat_ofNat];exact Nat.mod_eq_of_lt h
theorem zig_val {a:Int} (h:I64 a):u64.wrap (((BitVec.toNat (BitVec.ofInt 64 (u64.wrap (i64.wrap (a*2))) ^^^ BitVec.ofInt 64 (u64.wrap (Int.fdiv a 9223372036854775808))):Nat):Int))=(zig a:Int):=by
 have e1:u64.wrap (i64.wrap (a*2))=u64.wrap (a*2):=by simp only[Z5m,Z5t];omega
 rw[e1]
 by_cases h0:0≤a
 ·have e2:Int.fdiv a 9223372036854775808=0:=by rw[Int.fdiv_eq_ediv_of_nonneg _ (by omega)];omega
  have e3:u64.wrap (a*2)=((2*a).toNat:Int):=by rw[Z40 (by omega) (by omega)];omega
  have e4:BitVec.ofInt 64 (u64.wrap 0)=0#64:=by decide
  rw[e2,e4,BitVec.xor_zero,e3,Z4y (by omega),Z40 (by omega) (by omega),zig,if_pos h0]
 ·have e2:Int.fdiv a 9223372036854775808 = -1:=by rw[Int.fdiv_eq_ediv_of_nonneg _ (by omega)];omega
  have e3:u64.wrap (a*2)=((18446744073709551616+2*a).toNat:Int):=by rw[Z5m];omega
  have e4:BitVec.ofInt 64 (u64.wrap (-1))=BitVec.allOnes 64:=by decide
  rw[e2,e4,BitVec.xor_allOnes,BitVec.toNat_not,e3,Z4y (by omega),zig,if_neg h0,Z40 (by omega) (by omega)]
  omega
theorem wint {b:List Int} {f:Nat} {s:List Bool} (h:Laid b f s) (hl:s.length<800000000) {a:Int} (ha:I64 a) :
  ∃ (b':List Int) (f':Nat),Z0r.f b (f:Int) a=some (b',(f':Int))∧Laid b' f' (s++intB a):=by
 unfold Z0r.f Z6t.f
 rw[sb,zig_val ha]
 obtain⟨b',f',e,h'⟩:=Z5d h hl (n:=(zig a:Int)) (by omega) (by have:=zig_lt ha;omega)
 rw[e,sb]
 exact⟨b',f',rfl,by rw[Int.toNat_natCast] at h';exact h'⟩
def zag (n:Nat):Int:=if n % 2=0 then((n / 2:Nat):Int) else -((n / 2:Nat):Int)-1
theorem zag_zig {a:Int} (h:I64 a):zag (zig a)=a:=by
 unfold zag zig
 split<;>split<;>omega
theorem zag_i64 {n:Nat} (h:n<18446744073709551616):I64 (zag n):=by unfold zag;split<;>omega
theorem and_one (n:Nat) (h:n<18446744073709551616):(BitVec.toNat (BitVec.ofInt 64 (n:Int) &&& BitVec.ofInt 64 1):Nat)=n % 2:=by
 rw[BitVec.toNat_and,Z4y h,show(BitVec.ofInt 64 1).toNat=1 by decide,Nat.and_one_is_mod]
theorem zag_val {n:Nat} (h:n<18446744073709551616):i64.wrap (((BitVec.toNat (BitVec.ofInt 64 (i64.wrap (Int.fdiv (n:Int) 2)) ^^^ BitVec.ofInt 64 (i64.wrap (0-(i64.wrap (u64.wrap (((BitVec.toNat (BitVec.ofInt 64 (n:Int) &&& BitVec.ofInt 64 (1:Int)):Nat):Int))))))):Nat):Int))=zag n:=by
 have e0:Int.fdiv (n:Int) 2=((n / 2:Nat):Int):=by rw[Int.fdiv_eq_ediv_of_nonneg _ (by omega)];omega
 rw[and_one n h,e0,Zf (n:=((n / 2:Nat):Int)) (by omega) (by omega)]
 rcases Nat.mod_two_eq_zero_or_one n with h2 | h2
 ·have e4:BitVec.ofInt 64 (i64.wrap (0-(i64.wrap (u64.wrap ((0:Nat):Int)))))=0#64:=by decide
  rw[h2,e4,BitVec.xor_zero,Z4y (by omega),Zf (by omega) (by omega),zag,if_pos h2]
 ·have e4:BitVec.ofInt 64 (i64.wrap (0-(i64.wrap (u64.wrap ((1:Nat):Int)))))=BitVec.allOnes 64:=by decide
  rw[h2,e4,BitVec.xor_allOnes,BitVec.toNat_not,Z4y (by omega),zag,if_neg (by omega),Z5t]
  omega
variable {b:List Int}
theorem Zby (hb:Src b) {x:Int} (hx:I64 x) {a:Nat} {t:List Bool} (ha:a≤8*b.length) (h:(Zz b).drop a=intB x++t) :
  Z0d.f b (a:Int) 0=some (x,((a+(intB x).length:Nat):Int),0):=by
 unfold Z0d.f Z5z.f
 rw[Zc8 hb (zig_lt hx) ha h,sb,sb]
 dsimp only
 rw[zag_val (zig_lt hx),zag_zig hx];rfl
theorem count_tot (hb:Src b) {a:Nat} (ha:a≤8*b.length) (e:Int):∃ (n a1:Nat) (e1:Int),Zo.f b (a:Int) e=some ((n:Int),(a1:Int),e1)∧a1≤8*b.length∧n<18446744073709551616:=by
 by_cases he:e=0
 ·subst he
  obtain⟨n,a1,e,h1,h2,h3,_⟩:=Zc7 hb ha
  exact⟨n,a1,e,h1,h2,h3⟩
 ·exact⟨0,a,e,count_bad he,ha,by omega⟩
theorem Zbx (hb:Src b) {a:Nat} (ha:a≤8*b.length) (e:Int):∃ (x:Int) (a1:Nat) (e1:Int),Z0d.f b (a:Int) e=some (x,(a1:Int),e1)∧a1≤8*b.length∧I64 x:=by
 obtain⟨n,a1,e1,h1,h2,h3⟩:=count_tot hb ha e
 unfold Z0d.f Z5z.f
 rw[h1,sb,sb]
 dsimp only
 rw[zag_val h3]
 exact⟨_,_,_,rfl,h2,zag_i64 h3⟩
theorem Z6l (hb:Src b) {a:Nat} (ha:a≤8*b.length) (e:Int) {m:Nat} (hm:m<9223372036854775808):∃ (n a1:Nat) (e1:Int),Z4.f b (a:Int) e (m:Int)=some ((n:Int),(a1:Int),e1)∧a1≤8*b.length∧n≤m:=by
 by_cases he:e=0
 ·subst he
  obtain⟨n,a1,e,h1,h2,h3,_⟩:=Z4w hb hm ha
  exact⟨n,a1,e,h1,h2,h3⟩
 ·exact⟨0,a,e,Z5v he,ha,by omega⟩
end Go.Proofs.YtinhldbfifpakaaGreat.PvGL
set_option linter.unusedVariables false
set_option linter.unusedSimpArgs false
set_option maxRecDepth 10000
namespace Go.Proofs.YtinhldbfifpakaaGreat.PvGL
open Go Go.Pv Go.Pv.GS Go.IntKind
def spB:Bool→List Z35→List Bool
 | _,[]=>[]
 | true,s::r=>cnt2 (s.f1-1).toNat++spB false r
 | false,s::r=>cnt2 (s.f0-1).toNat++(cnt2 (s.f1-1).toNat++spB false r)
def lyR (f:Int):List Z35→List Bool
 | []=>[]
 | s::r=>intB f++spB true (s::r)
def lyB (L:Zd):List Bool:=cnt2 L.f1.length++lyR L.f0 L.f1
def RSp:Bool→List Z35→Prop
 | _,[]=>True
 | true,s::r=>s.f0=0∧1≤s.f1∧s.f1≤512∧RSp false r
 | false,s::r=>1≤s.f0∧s.f0≤524288∧1≤s.f1∧s.f1≤512∧RSp false r
theorem RSp.len {f:Bool} {s:Z35} {r:List Z35} (h:RSp f (s::r)):1≤s.f1∧s.f1≤512∧RSp false r:=by
 cases f
 ·exact h.2.2
 ·exact h.2
def Ids (l:List Int):Prop:=Inc l∧∀ i∈l,-262144≤i∧i≤262144
theorem Ids.sm {l:List Int} (h:Ids l):Sm l:=fun i hi=>by have:=h.2 i hi;omega
theorem runs_rsp:∀ (l:List Int) (p n off:Int) (f:Bool),1≤n→n+l.length≤512→Inc (p::l) → -262144≤p→(∀ i∈l,i≤262144)→(f=true→off=0)→(f=false→1≤off∧off≤524288)→RSp f (runs p n off l)
 | [],p,n,off,f,h1,h2,_,_,_,ht,hf=>by
  simp at h2
  rw[runs]
  cases f
  ·exact⟨(hf rfl).1,(hf rfl).2,h1,h2,trivial⟩
  ·exact⟨ht rfl,h1,h2,trivial⟩
 | i::l,p,n,off,f,h1,h2,hi,hp,hu,ht,hf=>by
  simp only[List.length_cons] at h2
  have q:=hi.cons
  have hpi:=q.1 i (by simp)
  have hui:=hu i (by simp)
  rw[runs]
  by_cases c:p+1=i
  ·rw[if_pos c]
   exact runs_rsp l i (n+1) off f (by omega) (by omega) q.2 (by omega) (fun j hj=>hu j (by simp[hj])) ht hf
  ·rw[if_neg c]
   have r:=runs_rsp l i 1 (i-p-1) false (by omega) (by omega) q.2 (by omega) (fun j hj=>hu j (by simp[hj])) (by simp) (fun _=>by omega)
   cases f
   ·exact⟨(hf rfl).1,(hf rfl).2,h1,by show n≤_;omega,r⟩
   ·exact⟨ht rfl,h1,by show n≤_;omega,r⟩
theorem lay_rsp {l:List Int} (h:Ids l) (hl:l.length≤512):RSp true (lay l).f1:=by
 cases l with
 | nil=>exact trivial
 | cons i l =>
  simp only[List.length_cons] at hl
  exact runs_rsp l i 1 0 true (by omega) (by omega) h.1 (h.2 i (by simp)).1 (fun j hj=>(h.2 j (by simp[hj])).2) (fun _=>rfl) (by simp)
theorem Z4r {l:List Int}:(lay l).f1.length≤l.length:=by
 cases l with
 | nil=>simp[lay]
 | cons i l=>have:=Zay l i 1 0;simp only[lay,List.length_cons];exact this
theorem lay_f0 {l:List Int} (h:Ids l) : -262144≤(lay l).f0∧(lay l).f0≤262144:=by
 cases l with
 | nil=>simp[lay]
 | cons i l=>exact h.2 i (by simp)
theorem Zbv (l:List Int):(lay l).f1=[]↔l=[]:=by
 cases l with
 | nil=>simp[lay]
 | cons i l =>
  simp only[lay]
  constructor
  ·intro h
   exfalso
   cases l with
   | nil=>simp[runs] at h
   | cons j l =>
    have:∀ (l:List Int) (p n off:Int),runs p n off l≠[]:=by
     intro l
     induction l with
     | nil=>intro p n off;simp[runs]
     | cons x l ih=>intro p n off;rw[runs];split;exact ih _ _ _;simp
    exact this _ _ _ _ h
  ·simp
theorem spB_len:∀ (r:List Z35) (f:Bool),(spB f r).length≤142*r.length
 | [],f=>by cases f<;>simp[spB]
 | s::r,f=>by
  have:=spB_len r false
  have:=Z22 (s.f0-1).toNat
  have:=Z22 (s.f1-1).toNat
  cases f<;>simp only[spB,List.length_append,List.length_cons]<;>omega
theorem lyB_len (L:Zd):(lyB L).length≤142+142*L.f1.length:=by
 unfold lyB
 have h1:=Z22 L.f1.length
 have h2:=Z5o L.f0
 have h3:=spB_len L.f1 true
 cases e:L.f1 with
 | nil=>rw[e] at h1;simp only[lyR,List.length_append,List.length_nil] at *;omega
 | cons s r=>rw[e] at h1 h3;simp only[lyR,List.length_append] at *;omega
theorem wspan_l0 (L:Zd) (hl:L.f1.length≤1000):∀ (suf pre:List Z35) (b:List Int) (f:Nat) (s:List Bool) (i:Int),L.f1=pre++suf→i=(pre.length:Int)→RSp (decide (pre=[])) suf→s.length+142*suf.length<700000000→Laid b f s →
  ∃ (b':List Int) (f':Nat),Z1s.l0 L b (f:Int) i=some (b',(f':Int))∧Laid b' f' (s++spB (decide (pre=[])) suf):=by
 intro suf
 induction suf with
 | nil =>
  intro pre b f s i h1 hi hR hs h
  rw[Z1s.l0,if_neg (by rw[h1];simp[hi])]
  exact⟨b,f,rfl,by cases (decide (pre=[]))<;>simpa[spB] using h⟩
 | cons x suf ih =>
  intro pre b f s i h1 hi hR hs h
  have hlen:L.f1.length=pre.length+(suf.length+1):=by rw[h1];simp
  have hx:=hR.len
  have hc1:=Z22 (x.f0-1).toNat
  have hc2:=Z22 (x.f1-1).toNat
  simp only[List.length_cons] at hs
  have hne:¬ (pre++[x]=[]):=by simp
  rw[Z1s.l0,if_pos (by simp;omega),Z1q h1 hi,sb,Zf (n:=x.f1-1) (by omega) (by omega),Z40 (n:=x.f1-1) (by omega) (by omega),Zf (n:=i+1) (by omega) (by omega)]
  rcases List.eq_nil_or_concat pre with rfl | ⟨P,p,rfl⟩
  ·rw[if_neg (by simp[hi]),sb]
   dsimp only
   obtain⟨b1,f1,e1,h1'⟩:=Z5d h (by omega) (n:=x.f1-1) (by omega) (by omega)
   rw[e1,sb]
   obtain⟨b2,f2,e2,h2'⟩:=ih [x] b1 f1 _ (i+1) (by simp[h1]) (by simp[hi]) (by simpa using hx.2.2) (by simp only[List.length_append];omega) h1'
   exact⟨b2,f2,e2,by simpa[spB] using h2'⟩
  ·simp only[List.concat_eq_append] at *
   have hd:decide (P++[p]=([]:List Z35))=false:=by simp
   rw[hd] at hR ⊢
   obtain⟨q1,q2,_⟩:=hR
   rw[if_pos (by simp at hi ⊢;omega),Zf (n:=x.f0-1) (by omega) (by omega),Z40 (n:=x.f0-1) (by omega) (by omega)]
   obtain⟨b1,f1,e1,h1'⟩:=Z5d h (by omega) (n:=x.f0-1) (by omega) (by omega)
   obtain⟨b2,f2,e2,h2'⟩:=Z5d h1' (by simp only[List.length_append];omega) (n:=x.f1-1) (by omega) (by omega)
   rw[e1,sb,sb]
   dsimp only
   rw[e2,sb]
   obtain⟨b3,f3,e3,h3'⟩:=ih (P++[p]++[x]) b2 f2 _ (i+1) (by simp[h1]) (by simp at hi ⊢;omega) (by simpa using hx.2.2) (by simp only[List.length_append];omega) h2'
   exact⟨b3,f3,e3,by simpa[spB] using h3'⟩
theorem wspan (L:Zd) (hl:L.f1.length≤1000) (hR:RSp true L.f1) (hf:I64 L.f0) {b:List Int} {f:Nat} {s:List Bool} (hs:s.length<600000000) (h:Laid b f s) :
  ∃ (b':List Int) (f':Nat),Z1s.f b (f:Int) L=some (b',(f':Int))∧Laid b' f' (s++lyB L):=by
 unfold Z1s.f
 have hc:=Z22 L.f1.length
 have hi:=Z5o L.f0
 rw[Z40 (by omega) (by omega)]
 obtain⟨b1,f1,e1,h1⟩:=Z5d h (by omega) (n:=(L.f1.length:Int)) (by omega) (by omega)
 rw[e1,sb]
 rw[Int.toNat_natCast] at h1
 unfold lyB
 cases e:L.f1 with
 | nil=>rw[e] at h1;rw[if_pos (by simp)];exact⟨b1,f1,rfl,by simpa[lyR] using h1⟩
 | cons x r =>
  rw[if_neg (by simp;omega)]
  obtain⟨b2,f2,e2,h2⟩:=wint h1 (by simp;omega) hf
  dsimp only
  rw[e2,sb]
  obtain⟨b3,f3,e3,h3⟩:=wspan_l0 L hl L.f1 [] b2 f2 _ 0 rfl rfl (by simpa using hR) (by simp;omega) h2
  dsimp only
  rw[e3,sb]
  refine⟨b3,f3,rfl,?_⟩
  rw[e] at h3
  simpa[e,lyR] using h3
def more (p:Int):List Int→Nat
 | []=>0
 | i::l=>if p+1=i then more i l+1 else 0
end Go.Proofs.YtinhldbfifpakaaGreat.PvGL
set_option linter.unusedVariables false
set_option linter.unusedSimpArgs false
set_option maxRecDepth 10000
namespace Go.Proofs.YtinhldbfifpakaaGreat.PvGL
open Go Go.Pv Go.Pv.GS Go.IntKind
variable {b:List Int}
theorem Zc3 (a e:Int):Zs.f b a e=some ():=rfl
theorem right_l0 (L:Zd) (hl:L.f1.length≤1000):∀ (suf pre:List Z35) (n i:Int),L.f1=pre++suf→i=(pre.length:Int)→RSp (decide (pre=[])) suf→0≤n→n+slen suf≤512 →
  Z1n.l0 L 512 n i=some (.inr ()):=by
 intro suf
 induction suf with
 | nil=>intro pre n i h1 hi hR h0 hn;rw[Z1n.l0,if_neg (by rw[h1];simp[hi])]
 | cons s suf ih =>
  intro pre n i h1 hi hR h0 hn
  have hlen:L.f1.length=pre.length+(suf.length+1):=by rw[h1];simp
  have hs:=hR.len
  simp only[slen] at hn
  have hb:((if(decide (s.f1<(1:Int)))=true then(some true) else(if(decide (s.f1>(i64.wrap ((512:Int)-n))))=true then(some true) else(if(decide (s.f0<(0:Int)))=true then(some true) else(if(decide (s.f0>(524288:Int)))=true then(some true) else(some (!((i==(0:Int))==(s.f0==(0:Int))))))))):Option (Bool))=some false:=by
   rw[if_neg (by simp;omega),Zf (by omega) (by omega),if_neg (by simp;omega)]
   rcases List.eq_nil_or_concat pre with rfl | ⟨P,p,rfl⟩
   ·have h00:s.f0=0:=hR.1
    rw[if_neg (by simp;omega),if_neg (by simp;omega),h00,hi];simp
   ·simp only[List.concat_eq_append] at *
    have hd:decide (P++[p]=([]:List Z35))=false:=by simp
    rw[hd] at hR
    obtain⟨q1,q2,_⟩:=hR
    have hi0:¬ i=0:=by simp at hi;omega
    have hs0:¬ s.f0=0:=by omega
    rw[if_neg (by simp;omega),if_neg (by simp;omega),show(i==0)=false by simpa using hi0,show(s.f0==0)=false by simpa using hs0];rfl
  rw[Z1n.l0,if_pos (by simp;omega),Z1q h1 hi,sb,hb,sb,if_neg (by simp),Zf (n:=n+s.f1) (by omega) (by omega),Zf (n:=i+1) (by omega) (by omega)]
  exact ih (pre++[s]) _ (i+1) (by simp[h1]) (by simp;omega) (by simpa using hs.2.2) (by omega) (by omega)
theorem right_lay {l:List Int} (h:Ids l) (hl:l.length≤512):Z1n.f (lay l) 512=some true:=by
 unfold Z1n.f
 cases l with
 | nil=>rw[if_pos (by simp[lay])];simp[lay]
 | cons i l =>
  have hn:¬ (lay (i::l)).f1=[]:=by rw[Zbv];simp
  have hf:=lay_f0 h
  have hsl:=@Z4r (i::l)
  rw[if_neg (by simpa using hn),right_l0 (lay (i::l)) (by omega) (lay (i::l)).f1 [] 0 0 rfl rfl (by simpa using lay_rsp h hl) (by omega) (by rw[slen_lay];omega),sb]
  dsimp only
  rw[if_pos (by simp;omega),sb];simp;omega
theorem right_l0_tot (L:Zd) (hl:L.f1.length≤1000) (hL:∀ s∈L.f1,0≤s.f0∧s.f0≤524288∧1≤s.f1∧s.f1≤512):∀ (suf pre:List Z35) (n i:Int),L.f1=pre++suf→i=(pre.length:Int)→0≤n→n≤512 →
  ∃ r,Z1n.l0 L 512 n i=some r∧(r = .inl false∨(r = .inr ()∧n+slen suf≤512)):=by
 intro suf
 induction suf with
 | nil=>intro pre n i h1 hi h0 hn;rw[Z1n.l0,if_neg (by rw[h1];simp[hi])];exact⟨_,rfl,.inr ⟨rfl,by simp[slen];omega⟩⟩
 | cons s suf ih =>
  intro pre n i h1 hi h0 hn
  have hlen:L.f1.length=pre.length+(suf.length+1):=by rw[h1];simp
  have hs:=hL s (by rw[h1];simp)
  rw[Z1n.l0,if_pos (by simp;omega),Z1q h1 hi,sb,Zf (n:=512-n) (by omega) (by omega)]
  by_cases c:s.f1>512-n
  ·rw[if_neg (by simp;omega),if_pos (by simpa using c),sb,if_pos rfl];exact⟨_,rfl,.inl rfl⟩
  rw[if_neg (by simp;omega),if_neg (by simpa using c),if_neg (by simp;omega),if_neg (by simp;omega),sb,Zf (n:=n+s.f1) (by omega) (by omega),Zf (n:=i+1) (by omega) (by omega)]
  by_cases c2:(!((i==(0:Int))==(s.f0==(0:Int))))=true
  ·rw[if_pos c2];exact⟨_,rfl,.inl rfl⟩
  rw[if_neg c2]
  obtain⟨r,e,hr⟩:=ih (pre++[s]) (n+s.f1) (i+1) (by simp[h1]) (by simp;omega) (by omega) (by omega)
  refine⟨r,e,?_⟩
  rcases hr with hr | ⟨hr,h2⟩
  ·exact .inl hr
  ·exact .inr ⟨hr,by simp only[slen];omega⟩
theorem right_tot (L:Zd) (hl:L.f1.length≤1000) (hL:∀ s∈L.f1,0≤s.f0∧s.f0≤524288∧1≤s.f1∧s.f1≤512):∃ r,Z1n.f L 512=some r∧(r=true→slen L.f1≤512 ∧ -262144≤L.f0∧L.f0≤262144):=by
 unfold Z1n.f
 by_cases h:L.f1=[]
 ·rw[if_pos (by simp[h])];exact⟨_,rfl,fun hr=>by simp at hr;rw[h,hr];simp[slen]⟩
 rw[if_neg (by simpa using h)]
 obtain⟨r,e,hr⟩:=right_l0_tot L hl hL L.f1 [] 0 0 rfl rfl (by omega) (by omega)
 rw[e,sb]
 rcases hr with rfl | ⟨rfl,h2⟩
 ·exact⟨_,rfl,by simp⟩
 ·dsimp only
  by_cases c:L.f0 ≥ -262144
  ·rw[if_pos (by simpa using c),sb];exact⟨_,rfl,fun hr=>by simp at hr;omega⟩
  ·rw[if_neg (by simpa using c),sb];exact⟨_,rfl,by simp⟩
theorem tk_l0 (hb:Src b) (F:Int) (x:List Z35) (hx:x.length≤512) (z:List Bool):∀ (suf pre:List Z35) (a:Nat) (i:Int),x=pre++suf→i=(pre.length:Int)→RSp (decide (pre=[])) suf→a≤8*b.length →
  (Zz b).drop a=spB (decide (pre=[])) suf++z→∃ a':Nat,Z0x.l0 b 512 F (x.length:Int) (a:Int) 0 pre i=some ((a':Int),0,x)∧a'≤8*b.length∧(Zz b).drop a'=z:=by
 intro suf
 induction suf with
 | nil =>
  intro pre a i h1 hi hR ha h
  rw[List.append_nil] at h1
  subst h1
  rw[Z0x.l0,if_neg (by simp;omega),sb,if_neg (by simp)]
  exact⟨a,rfl,ha,by cases e:(decide (x=[]))<;>simpa[spB,e] using h⟩
 | cons s suf ih =>
  intro pre a i h1 hi hR ha h
  have hlen:x.length=pre.length+(suf.length+1):=by rw[h1];simp
  have hs:=hR.len
  have w511:i64.wrap ((512:Int)-1)=((511:Nat):Int):=by decide
  rw[Z0x.l0,if_pos (by simp;omega),Zc3,sb,sb,if_pos (by simp),w511]
  rcases List.eq_nil_or_concat pre with rfl | ⟨P,p,rfl⟩
  ·rw[if_neg (by simp[hi]),sb]
   dsimp only
   have h':(Zz b).drop a=cnt2 (s.f1-1).toNat++(spB false suf++z):=by rw[h];simp[spB]
   have s1:=Z3l hb (n:=(s.f1-1).toNat) (m:=511) (by omega) (by omega) ha h'
   have l1:=congrArg List.length h'
   simp only[List.length_drop,Z0j,List.length_append] at l1
   have h00:s.f0=0:=hR.1
   rw[s1,sb,chkB (by simp)]
   dsimp only
   have es:(⟨0,i64.wrap (1+((s.f1-1).toNat:Int))⟩:Z35)=s:=by
    rw[Zf (by omega) (by omega),← h00,show 1+((s.f1-1).toNat:Int)=s.f1 by omega]
   rw[es,Zf (n:=i+1) (by omega) (by omega),List.nil_append]
   exact ih [s] _ (i+1) (by simp[h1]) (by simp[hi]) (by simpa using hs.2.2) (by omega) (by rw[← List.drop_drop,h',List.drop_left];simp)
  ·simp only[List.concat_eq_append] at *
   have hd:decide (P++[p]=([]:List Z35))=false:=by simp
   rw[hd] at hR h
   obtain⟨q1,q2,_⟩:=hR
   rw[if_pos (by simp at hi ⊢;omega)]
   have h':(Zz b).drop a=cnt2 (s.f0-1).toNat++(cnt2 (s.f1-1).toNat++(spB false suf++z)):=by rw[h];simp[spB]
   have s1:=Z3l hb (n:=(s.f0-1).toNat) (m:=524287) (by omega) (by omega) ha h'
   have l1:=congrArg List.length h'
   simp only[List.length_drop,Z0j,List.length_append] at l1
   have d1:(Zz b).drop (a+(cnt2 (s.f0-1).toNat).length)=cnt2 (s.f1-1).toNat++(spB false suf++z):=by rw[← List.drop_drop,h',List.drop_left]
   have s2:=Z3l hb (n:=(s.f1-1).toNat) (m:=511) (by omega) (by omega) (by omega) d1
   rw[show Z4.f b (a:Int) 0 524287=_ from s1,sb,sb]
   dsimp only
   rw[s2,sb,chkB (by simp at hlen ⊢;omega)]
   dsimp only
   have es:(⟨i64.wrap (1+((s.f0-1).toNat:Int)),i64.wrap (1+((s.f1-1).toNat:Int))⟩:Z35)=s:=by
    rw[Zf (by omega) (by omega),Zf (by omega) (by omega),show 1+((s.f1-1).toNat:Int)=s.f1 by omega,show 1+((s.f0-1).toNat:Int)=s.f0 by omega]
   have hi':i=(P.length:Int)+1:=by rw[hi];simp
   simp only[List.length_append,List.length_singleton] at hlen
   rw[es,Zf (n:=i+1) (by omega) (by omega)]
   exact ih (P++[p]++[s]) _ (i+1) (by simp[h1]) (by simp at hi ⊢;omega) (by simpa using hs.2.2) (by omega) (by rw[← List.drop_drop,d1,List.drop_left];simp)
theorem tk_fwd (hb:Src b) {l:List Int} (h:Ids l) (hl:l.length≤512) {a:Nat} (ha:a≤8*b.length) (z:List Bool) (hd:(Zz b).drop a=lyB (lay l)++z) :
  ∃ a':Nat,Z0x.f b (a:Int) 0 512=some (lay l,(a':Int),0)∧a'≤8*b.length∧(Zz b).drop a'=z:=by
 have hsl:=@Z4r l
 have hf:=lay_f0 h
 unfold Z0x.f
 have hd1:=hd
 rw[lyB,List.append_assoc] at hd1
 have s1:=Z3l hb (n:=(lay l).f1.length) (m:=512) (by omega) (by omega) ha hd1
 have l1:=congrArg List.length hd1
 simp only[List.length_drop,Z0j,List.length_append] at l1
 have d1:(Zz b).drop (a+(cnt2 (lay l).f1.length).length)=lyR (lay l).f0 (lay l).f1++z:=by rw[← List.drop_drop,hd1,List.drop_left]
 have hrt:=right_lay h hl
 rw[show Z4.f b (a:Int) 0 512=_ from s1,sb]
 dsimp only
 by_cases e:(lay l).f1=[]
 ·have hl0:=(Zbv         l).1 e
  subst hl0
  rw[show(lay []).f1=[] from rfl] at *
  rw[if_neg (by simp),sb]
  dsimp only
  rw[show((([]:List Z35).length:Nat):Int)=0 from rfl,Z0x.l0,if_neg (by simp),sb,if_neg (by simp),sb]
  dsimp only
  rw[Zc3,sb,if_neg (by simp),if_neg (by simp),show Z1n.f ⟨0,[]⟩ 512=some true from rfl,sb,sb,if_neg (by simp)]
  exact⟨_,rfl,by omega,by simpa[lyR] using d1⟩
 ·obtain⟨s,r,e2⟩:∃ s r,(lay l).f1=s::r:=by
   cases q:(lay l).f1 with
   | nil=>exact absurd q e
   | cons s r=>exact⟨s,r,rfl⟩
  have hne:(lay l).f1.length=r.length+1:=by rw[e2];simp
  have hly:lyR (lay l).f0 (lay l).f1=intB (lay l).f0++spB true (lay l).f1:=by rw[e2];rfl
  rw[hly,List.append_assoc] at d1
  rw[hly,List.length_append] at l1
  have hI:I64 (lay l).f0:=by omega
  have s2:=Zby hb hI (by omega) d1
  have d2:(Zz b).drop (a+(cnt2 (lay l).f1.length).length+(intB (lay l).f0).length)=spB (decide (([]:List Z35)=[])) (lay l).f1++z:=by rw[← List.drop_drop,d1,List.drop_left];simp
  rw[if_pos (by simp;omega),s2,sb]
  dsimp only
  rw[if_pos (by simp;omega),show decide ((lay l).f0≤262144)=true by simp;omega,sb,if_pos rfl,sb,sb]
  dsimp only
  have hR:=lay_rsp h hl
  obtain⟨a',e3,h3,h4⟩:=tk_l0 hb (lay l).f0 (lay l).f1 (by omega) z (lay l).f1 [] _ 0 rfl rfl (by simpa using hR) (by omega) d2
  rw[e3,sb]
  dsimp only
  rw[Zc3,sb,if_neg (by simp),if_neg (by simp<;>omega),show Z1n.f ⟨(lay l).f0,(lay l).f1⟩ 512=some true from hrt,sb,sb,if_neg (by simp)]
  exact⟨a',rfl,h3,h4⟩
theorem tk_l0_tot (hb:Src b) (F N:Int) (hN:N≤512):∀ (m:Nat) (pre:List Z35) (a:Nat) (e i:Int),N-i≤m→i=(pre.length:Int)→pre.length≤512→a≤8*b.length→(∀ s∈pre,0≤s.f0∧s.f0≤524288∧1≤s.f1∧s.f1≤512) →
  ∃ (a':Nat) (e':Int) (x:List Z35),Z0x.l0 b 512 F N (a:Int) e pre i=some ((a':Int),e',x)∧a'≤8*b.length∧x.length≤512∧∀ s∈x,0≤s.f0∧s.f0≤524288∧1≤s.f1∧s.f1≤512:=by
 intro m
 induction m with
 | zero =>
  intro pre a e i hm hi hp ha hok
  rw[Z0x.l0,if_neg (by simp;omega),sb,if_neg (by simp)]
  exact⟨a,e,pre,rfl,ha,hp,hok⟩
 | succ m ih =>
  intro pre a e i hm hi hp ha hok
  have w511:i64.wrap ((512:Int)-1)=((511:Nat):Int):=by decide
  rw[Z0x.l0]
  by_cases c:i<N
  case neg=>rw[if_neg (by simpa using c),sb,if_neg (by simp)];exact⟨a,e,pre,rfl,ha,hp,hok⟩
  rw[if_pos (by simpa using c),Zc3,sb,sb]
  by_cases ce:e=0
  case neg=>rw[if_neg (by simpa using ce)];exact⟨a,e,pre,rfl,ha,hp,hok⟩
  rw[if_pos (by simpa using ce),w511]
  obtain⟨o,a1,e1,E1,g1,g2⟩:∃ (o:Int) (a1:Nat) (e1:Int),((if(decide (i>(0:Int)))=true then((Z4.f b (a:Int) e 524287)>>=fun t2729=>some (t2729.2.1,t2729.2.2,i64.wrap ((1:Int)+t2729.1))) else(some ((a:Int),e,0))):Option (Int×Int×Int))=some ((a1:Int),e1,o)∧a1≤8*b.length∧0≤o∧o≤524288:=by
   by_cases c2:i>0
   ·obtain⟨n,a1,e1,h1,h2,h3⟩:=Z6l       hb ha e (m:=524287) (by omega)
    rw[if_pos (by simpa using c2),show Z4.f b (a:Int) e 524287=_ from h1,sb]
    dsimp only
    exact⟨_,a1,e1,rfl,h2,by rw[Zf (by omega) (by omega)];omega⟩
   ·rw[if_neg (by simpa using c2)];exact⟨0,a,e,rfl,ha,by omega,by omega⟩
  rw[E1,sb]
  dsimp only
  obtain⟨n,a2,e2,h1,h2,h3⟩:=Z6l hb g1 e1 (m:=511) (by omega)
  rw[h1,sb,chkB (by simp;omega),Zf (n:=i+1) (by omega) (by omega)]
  dsimp only
  exact ih (pre++[_]) a2 e2 (i+1) (by omega) (by simp;omega) (by simp;omega) h2 (fun s hs=>by
   rcases List.mem_append.1 hs with hs | hs
   ·exact hok s hs
   ·simp at hs;subst hs
    dsimp only
    rw[Zf (by omega) (by omega)];omega)
structure LOk (L:Zd):Prop where
 sp:SpOk L.f1
 first : -262144≤L.f0∧L.f0≤262144
 len:slen L.f1≤512
theorem tk_tot (hb:Src b) {a:Nat} (ha:a≤8*b.length) (e:Int):∃ (L:Zd) (a':Nat) (e':Int),Z0x.f b (a:Int) e 512=some (L,(a':Int),e')∧a'≤8*b.length∧LOk L:=by
 unfold Z0x.f
 obtain⟨n,a1,e1,h1,h2,h3⟩:=Z6l hb ha e (m:=512) (by omega)
 rw[show Z4.f b (a:Int) e 512=_ from h1,sb]
 dsimp only
 obtain⟨a2,e2,F,N,E2,g1,g2⟩:∃ (a2:Nat) (e2 F N:Int),((if(decide ((n:Int)>(0:Int)))=true then((Z0d.f b (a1:Int) e1)>>=fun t2688=>((if(decide (t2688.1≥(-262144)))=true then(some (decide (t2688.1≤(262144:Int)))) else(some false)):Option (Bool))>>=fun x2692=>((if x2692=true then(some (t2688.1,(n:Int))) else(some (0,(-1)))):Option (Int×Int))>>=fun oo=>match oo with | (x2694,x2695)=>(some (t2688.2.1,t2688.2.2,x2694,x2695))) else(some ((a1:Int),e1,0,(n:Int)))):Option (Int×Int×Int×Int))=some ((a2:Int),e2,F,N)∧a2≤8*b.length∧N≤512:=by
  by_cases c:(n:Int)>0
  ·obtain⟨x,a2,e2,k1,k2,k3⟩:=Zbx     hb h2 e1
   rw[if_pos (by simpa using c),k1,sb]
   dsimp only
   by_cases c2:x ≥ -262144
   ·rw[if_pos (by simpa using c2),sb]
    by_cases c3:x≤262144
    ·rw[decide_eq_true c3,if_pos rfl,sb];exact⟨_,_,_,_,rfl,k2,by omega⟩
    ·rw[decide_eq_false c3,if_neg (by simp),sb];exact⟨_,_,_,_,rfl,k2,by omega⟩
   ·rw[if_neg (by simpa using c2),sb,if_neg (by simp),sb];exact⟨_,_,_,_,rfl,k2,by omega⟩
  ·rw[if_neg (by simpa using c)];exact⟨_,_,_,_,rfl,h2,by omega⟩
 rw[E2,sb]
 dsimp only
 obtain⟨a3,e3,x,E3,g3,g4,g5⟩:=tk_l0_tot hb F N g2 (N-0).toNat [] a2 e2 0 (by omega) rfl (by simp) g1 (by simp)
 rw[E3,sb]
 dsimp only
 rw[Zc3,sb]
 have h0:LOk (⟨0,[]⟩:Zd):=⟨⟨by simp,by simp⟩,by simp,by simp[slen]⟩
 by_cases c1:e3=0
 case neg=>rw[if_pos (by simpa using c1),sb,if_pos rfl];exact⟨_,_,_,rfl,g3,h0⟩
 rw[if_neg (by simpa using c1)]
 by_cases c2:N<0
 ·rw[if_pos (by simpa using c2),sb,if_pos rfl];exact⟨_,_,_,rfl,g3,h0⟩
 rw[if_neg (by simpa using c2)]
 obtain⟨r,er,hr⟩:=right_tot (⟨F,x⟩:Zd) (by show x.length≤_;omega) g5
 rw[er,sb,sb]
 cases r with
 | false=>rw[if_pos (show(!false)=true from rfl)];exact⟨_,_,_,rfl,g3,h0⟩
 | true =>
  obtain⟨k1,k2,k3⟩:=hr rfl
  rw[if_neg (by simp)]
  exact⟨_,_,_,rfl,g3,⟨⟨fun s hs=>by have:=g5 s hs;omega,by show x.length≤_;omega⟩,⟨k2,k3⟩,k1⟩⟩
theorem cnt_l1 (j:Int) (t x:List Int) (q:Int):∀ (b:List Z3),b.length<1000000000→∃ r,Z12.l1 j t x q b=some r∧r.length≤b.length∧(∃ d,b=d++r∧∀ y∈d,y.f0<j)∧(∀ y,r.head? = some y→j≤y.f0):=by
 intro b
 induction b with
 | nil=>intro _;rw[Z12.l1,if_neg (by simp),sb,if_neg (by simp)];exact⟨[],rfl,by simp,⟨[],rfl,by simp⟩,by simp⟩
 | cons y b ih =>
  intro hl
  simp only[List.length_cons] at hl
  rw[Z12.l1,if_pos (by simp<;>omega),show at? (y::b) 0=some y from rfl,sb,sb]
  by_cases c:y.f0<j
  ·rw[if_pos (by simpa using c),chkB (by simp;omega),tl1]
   obtain⟨r,e,h1,⟨d,h2,h3⟩,h4⟩:=ih (by omega)
   exact⟨r,e,by simp;omega,⟨y::d,by simp[h2],fun z hz=>by rcases List.mem_cons.1 hz with rfl | hz;exact c;exact h3 z hz⟩,h4⟩
  ·rw[if_neg (by simpa using c)]
   exact⟨y::b,rfl,Nat.le_refl _,⟨[],rfl,by simp⟩,fun z hz=>by simp at hz;subst hz;omega⟩
theorem tot_drop {d r:List Z3} {j:Int} (h:∀ y∈d,y.f0<j) {i:Int} (hi:j≤i):tot (d++r) i=tot r i:=by
 rw[Z3s,tot_zero (fun y hy=>by have:=h y hy;omega)];omega
theorem cnt_l0 (P:List Int) (hP:Inc P) (hl:P.length<1000000):∀ (suf pre:List Int) (r:List Z3) (o:List Int) (i:Int),P=pre++suf→i=(pre.length:Int)→Z4p r→r.length<1000000000→o.length≤pre.length →
  Z12.l0 P r o i=some (o++suf.map (tot r)):=by
 intro suf
 induction suf with
 | nil=>intro pre r o i h1 hi hc hr ho;rw[Z12.l0,if_neg (by rw[h1];simp[hi])];simp
 | cons j suf ih =>
  intro pre r o i h1 hi hc hr ho
  have hlen:P.length=pre.length+(suf.length+1):=by rw[h1];simp
  have hj:∀ k∈suf,j<k:=by
   rw[h1] at hP
   exact(List.pairwise_cons.1 (List.pairwise_append.1 hP).2.1).1
  rw[Z12.l0,if_pos (by simp;omega),Z1q h1 hi,sb]
  obtain⟨r',e,g1,⟨d,g2,g3⟩,g4⟩:=cnt_l1 j P o i r hr
  rw[e,sb,Zf (n:=i+1) (by omega) (by omega)]
  have hc':Z4p r':=by
   rw[g2] at hc
   exact⟨(List.pairwise_append.1 hc.up).2.1,fun y hy=>hc.pos y (by simp[hy])⟩
  have htj:tot r j=tot r' j:=by rw[g2];exact tot_drop g3 (Int.le_refl _)
  have hts:∀ k∈suf,tot r k=tot r' k:=fun k hk=>by rw[g2];exact tot_drop g3 (by have:=hj k hk;omega)
  have fin:∀ v:Int,v=tot r' j→Z12.l0 P r' (o++[v]) (i+1)=some (o++(j::suf).map (tot r)):=by
   intro v hv
   rw[ih (pre++[j]) r' (o++[v]) (i+1) (by simp[h1]) (by simp;omega) hc' (by omega) (by simp;omega),List.map_cons,htj,hv,List.map_congr_left hts]
   simp
  cases r' with
  | nil =>
   rw[if_neg (by simp),sb,if_neg (by simp),chkB (by simp;omega),sb]
   exact fin 0 (by simp[tot])
  | cons y r'' =>
   rw[if_pos (by simp<;>omega),show at? (y::r'') 0=some y from rfl,sb,sb]
   by_cases c:y.f0=j
   ·rw[if_pos (by simpa using c),sb,chkB (by simp;omega),sb]
    exact fin y.f1 (by rw[← c,hc'.tot_head])
   ·rw[if_neg (by simpa using c),chkB (by simp;omega),sb]
    have:=g4 y rfl
    exact fin 0 (by rw[hc'.tot_low (by omega)])
theorem counts_eq {P:List Int} (hP:Inc P) (hm:Sm P) (hl:P.length<1000000) {r:List Z3} (hc:Z4p r) (hr:r.length<1000000000):Z12.f (lay P) r=some (P.map (tot r)):=by
 unfold Z12.f
 rw[Z77 hm hl,sb,cnt_l0 P hP hl P [] r [] 0 rfl rfl hc hr (by simp),sb];rfl
def bks:List Int→List Int→List Z3
 | i::P,n::c=>if 0<n then⟨i,n⟩::bks P c else bks P c
 | _,_=>[]
theorem bks_len:∀ (P c:List Int),(bks P c).length≤P.length
 | [],_=>by simp[bks]
 | i::P,[]=>by simp[bks]
 | i::P,n::c=>by rw[bks];have:=bks_len P c;split<;>simp<;>omega
theorem Zci:∀ (P c:List Int) (y:Z3),y∈bks P c→y.f0∈P∧y.f1∈c∧0<y.f1
 | [],_,y,h=>by simp[bks] at h
 | i::P,[],y,h=>by simp[bks] at h
 | i::P,n::c,y,h=>by
  rw[bks] at h
  split at h
  ·rcases List.mem_cons.1 h with rfl | h
   ·rename_i h0;exact⟨by simp,by simp,h0⟩
   ·have:=Zci P c y h;exact⟨by simp[this.1],by simp[this.2.1],this.2.2⟩
  ·have:=Zci P c y h;exact⟨by simp[this.1],by simp[this.2.1],this.2.2⟩
theorem bks_canon:∀ (P c:List Int),Inc P→Z4p (bks P c)
 | [],_,_=>by simp only[bks];exact⟨List.Pairwise.nil,by simp⟩
 | i::P,[],_=>by simp only[bks];exact⟨List.Pairwise.nil,by simp⟩
 | i::P,n::c,h=>by
  have q:=h.cons
  have ih:=bks_canon P c q.2
  rw[bks]
  split
  ·rename_i h0
   exact⟨List.pairwise_cons.2 ⟨fun y hy=>q.1 _ (Zci P c y hy).1,ih.up⟩,fun y hy=>by rcases List.mem_cons.1 hy with rfl | hy;exact h0;exact ih.pos y hy⟩
  ·exact ih
theorem bks_tot:∀ (P:List Int) (r:List Z3) (i:Int),Inc P→Nn r→tot (bks P (P.map (tot r))) i=if i∈P then tot r i else 0
 | [],r,i,_,_=>by simp[bks,tot]
 | j::P,r,i,h,hn=>by
  have q:=h.cons
  have ih:=bks_tot P r i q.2 hn
  have h0:=Z7s hn j
  rw[List.map_cons,bks]
  have hsplit:tot (if 0<tot r j then⟨j,tot r j⟩::bks P (P.map (tot r)) else bks P (P.map (tot r))) i=(if j=i then tot r j else 0)+tot (bks P (P.map (tot r))) i:=by
   by_cases c:0<tot r j
   ·rw[if_pos c,show((⟨j,tot r j⟩:Z3)::bks P (P.map (tot r)))=[(⟨j,tot r j⟩:Z3)]++bks P (P.map (tot r)) from rfl,Z3s,Zb9]
   ·rw[if_neg c];split<;>omega
  rw[hsplit,ih]
  by_cases c:j=i
  ·subst c
   have hj:¬ j∈P:=fun hm=>by have:=q.1 j hm;omega
   rw[if_pos rfl,if_neg hj,if_pos (by simp)];omega
  ·rw[if_neg c]
   by_cases c2:i∈P
   ·rw[if_pos c2,if_pos (by simp[c2])];omega
   ·rw[if_neg c2,if_neg (by simp[c2];exact fun e=>c e.symm)];omega
theorem bks_self {P:List Int} (hP:Inc P) {r:List Z3} (hc:Z4p r) (hs:∀ y∈r,y.f0∈P):bks P (P.map (tot r))=r:=by
 refine Z5g (bks_canon _ _ hP) hc (fun i => ?_)
 rw[bks_tot P r i hP hc.nn]
 by_cases h:i∈P
 ·rw[if_pos h]
 ·rw[if_neg h,tot_zero (fun y hy e=>h (by rw[← e];exact hs y hy))]
theorem bk_l0 (P c:List Int) (hl:P.length<1000000):∀ (suf pre:List Int) (cs cp:List Int) (o:List Z3) (i:Int),P=pre++suf→c=cp++cs→cp.length=pre.length→i=(pre.length:Int)→o.length≤pre.length→cs.length=suf.length →
  Z1g.l0 c P o i=some (o++bks suf cs):=by
 intro suf
 induction suf with
 | nil=>intro pre cs cp o i h1 h2 h3 hi ho _;rw[Z1g.l0,if_neg (by rw[h1];simp[hi])];simp[bks]
 | cons j suf ih =>
  intro pre cs cp o i h1 h2 h3 hi ho h4
  have hlen:P.length=pre.length+(suf.length+1):=by rw[h1];simp
  cases cs with
  | nil=>simp at h4
  | cons n cs =>
   have hcl:c.length=cp.length+(cs.length+1):=by rw[h2];simp
   have an:=Z1q h2 (i:=i) (by omega)
   rw[Z1g.l0,if_pos (by simp;omega),Z1q h1 hi,sb,if_pos (by simp;omega),an,sb,sb,Zf (n:=i+1) (by omega) (by omega),bks]
   by_cases q:0<n
   ·rw[if_pos (by simpa using q),if_pos q,sb,chkB (by simp;omega),sb,ih (pre++[j]) cs (cp++[n]) _ (i+1) (by simp[h1]) (by simp[h2]) (by simp[h3]) (by simp;omega) (by simp;omega) (by simpa using h4)]
    simp
   ·rw[if_neg (by simpa using q),if_neg q,sb,ih (pre++[j]) cs (cp++[n]) _ (i+1) (by simp[h1]) (by simp[h2]) (by simp[h3]) (by simp;omega) (by simp;omega) (by simpa using h4)]
theorem Z84 {L:Zd} {P:List Int} (hi:Z01.f L=some P) (hl:P.length<1000000) {c:List Int} (hc:c.length=P.length):Z1g.f L c=some (bks P c):=by
 unfold Z1g.f
 rw[hi,sb,bk_l0 P c hl P [] c [] [] 0 rfl rfl rfl rfl (by simp) hc,sb];rfl
end Go.Proofs.YtinhldbfifpakaaGreat.PvGL
set_option linter.unusedVariables false
set_option linter.unusedSimpArgs false
namespace Go.Proofs.YtinhldbfifpakaaGreat.PvGL
open Go Go.Pv Go.Pv.GS Go.IntKind
def cnt (l:List Z3):Int:=(l.map (·.f1)).sum
theorem Z2b {l:List Z3} (h:Nn l):0≤cnt l:=Z76 (fun x hx=>by
 obtain⟨b,hb,rfl⟩:=List.mem_map.1 hx;exact h b hb)
theorem Z69 (b:Z3) (l:List Z3):cnt (b::l)=b.f1+cnt l:=by simp[cnt]
theorem Zde (a b:List Z3):cnt (a++b)=cnt a+cnt b:=by simp[cnt]
theorem total_l1 (a0:List (List Z3)) (x769:Int) (l:List Z3) (hl:l.length<1000000000):∀ (suf pre:List Z3) (acc i:Int),l=pre++suf→i=(pre.length:Int)→U64 acc→(∀ b∈suf,U64 b.f1) →
  Z1d.l1 a0 l x769 acc i=some (if acc+cnt suf<18446744073709551616 then .inr (acc+cnt suf) else .inl (0,5)):=by
 intro suf
 induction suf with
 | nil =>
  intro pre acc i h1 hi ha hs
  subst h1
  rw[Z1d.l1,if_neg (by simp[hi])]
  simp[cnt,ha.2]
 | cons x suf ih =>
  intro pre acc i h1 hi ha hs
  have hx:=hs x (by simp)
  have hs':∀ y∈suf,U64 y.f1:=fun y hy=>hs y (by simp[hy])
  have hnn:0≤cnt suf:=Z2b (fun y hy=>(hs' y hy).1)
  have hlen:(l.length:Int)=pre.length+(suf.length+1):=by rw[h1];simp
  rw[Z1d.l1,if_pos (by simp;omega),Z1q h1 hi,sb,num_add2 ha hx,sb,Zf (by omega) (by omega),Z69]
  by_cases hov:acc+x.f1<18446744073709551616
  ·rw[if_pos hov,if_neg (by simp),ih (pre++[x]) (acc+x.f1) (i+1) (by simp[h1]) (by simp;omega) ⟨by omega,hov⟩ hs',Int.add_assoc]
  ·rw[if_neg hov,if_pos (by simp),if_neg (by omega)]
theorem total_l0 (a0:List (List Z3)) (ha0:a0.length<1000000000):∀ (suf pre:List (List Z3)) (acc i:Int),a0=pre++suf→i=(pre.length:Int)→U64 acc→(∀ l∈suf,l.length<1000000000∧∀ b∈l,U64 b.f1) →
  Z1d.l0 a0 acc i=some (if acc+(suf.map cnt).sum<18446744073709551616 then .inr (acc+(suf.map cnt).sum) else .inl (0,5)):=by
 intro suf
 induction suf with
 | nil =>
  intro pre acc i h1 hi ha hs
  subst h1
  rw[Z1d.l0,if_neg (by simp[hi])]
  simp[ha.2]
 | cons x suf ih =>
  intro pre acc i h1 hi ha hs
  have hx:=hs x (by simp)
  have hs':∀ l∈suf,l.length<1000000000∧∀ b∈l,U64 b.f1:=fun y hy=>hs y (by simp[hy])
  have hx0:0≤cnt x:=Z2b (fun y hy=>(hx.2 y hy).1)
  have hnn:0≤(suf.map cnt).sum:=Z76 (fun y hy=>by
   obtain⟨l,hl,rfl⟩:=List.mem_map.1 hy;exact Z2b (fun y hy=>((hs' l hl).2 y hy).1))
  have hlen:(a0.length:Int)=pre.length+(suf.length+1):=by rw[h1];simp
  rw[Z1d.l0,if_pos (by simp;omega),Z1q h1 hi,sb,total_l1 a0 i x hx.1 x [] acc 0 rfl rfl ha hx.2,sb,Zf (by omega) (by omega),List.map_cons,List.sum_cons]
  by_cases hov:acc+cnt x<18446744073709551616
  ·rw[if_pos hov]
   simp only[]
   rw[ih (pre++[x]) (acc+cnt x) (i+1) (by simp[h1]) (by simp;omega) ⟨by omega,hov⟩ hs',Int.add_assoc]
  ·rw[if_neg hov,if_neg (by omega)]
theorem total3 (p n:List Z3) (z:Int) (hp:p.length<1000000000) (hn:n.length<1000000000) (hpU:∀ b∈p,U64 b.f1) (hnU:∀ b∈n,U64 b.f1) (hz:U64 z) :
  Z1d.f [p,n,[(⟨0,z⟩:Z3)]]=some (if cnt p+cnt n+z<18446744073709551616 then(cnt p+cnt n+z,0) else(0,5)):=by
 unfold Z1d.f
 rw[total_l0 [p,n,[(⟨0,z⟩:Z3)]] (by simp) [p,n,[(⟨0,z⟩:Z3)]] [] 0 0 rfl rfl (by omega) (by
  intro l hl
  simp only[List.mem_cons,List.not_mem_nil,or_false] at hl
  rcases hl with rfl | rfl | rfl
  ·exact⟨hp,hpU⟩
  ·exact⟨hn,hnU⟩
  ·exact⟨by simp,by simp;exact hz⟩),sb]
 have e:0+(([p,n,[(⟨0,z⟩:Z3)]]:List (List Z3)).map cnt).sum=cnt p+cnt n+z:=by simp[cnt];omega
 rw[e]
 by_cases h:cnt p+cnt n+z<18446744073709551616
 ·rw[if_pos h,if_pos h]
 ·rw[if_neg h,if_neg h]
theorem Zaz (s:Int):Z0v.f s=some (decide (-4≤s)&&decide (s≤8)):=by
 unfold Z0v.f
 rw[ifand];rfl
def Z2z (s:Int):Prop:=-4≤s∧s≤8
instance (s:Int):Decidable (Z2z s):=inferInstanceAs (Decidable (_∧_))
theorem Z70 {s:Int} (h:Z2z s):Z0v.f s=some true:=by rw[Zaz];simp[h.1,h.2]
theorem right_F {s:Int} (h:¬ Z2z s):Z0v.f s=some false:=by rw[Zaz];simp[Z2z] at h ⊢;omega
def stp (s:Int):Int:=2 ^ (8-s).toNat
theorem Z6d (s:Int):0<stp s:=by unfold stp;exact Int.pow_pos (by omega)
theorem stp_le {s:Int} (h:Z2z s):stp s≤4096:=by
 have h1:=h.1
 have h2:=h.2
 have:s = -4∨s = -3∨s = -2∨s = -1∨s=0∨s=1∨s=2∨s=3∨s=4∨s=5∨s=6∨s=7∨s=8:=by omega
 rcases this with rfl | rfl | rfl | rfl | rfl | rfl | rfl | rfl | rfl | rfl | rfl | rfl | rfl<;>decide
theorem shift_eq {s:Int} (h:Z2z s):min (Int.toNat (u64.wrap (i64.wrap ((8:Int)-s)))) 64=(8-s).toNat:=by
 have h1:=h.1
 have h2:=h.2
 rw[Zf (by omega) (by omega),Z40 (by omega) (by omega)];omega
theorem most_T {s:Int} (h:Z2z s):Z36.f s=some (262144 / stp s):=by
 unfold Z36.f Z3b.f
 rw[Z70 h,sb,if_neg (by simp),sb,chkB (Z67 _).1,shift_eq h,Int.fdiv_eq_ediv_of_nonneg _ (by exact Int.le_of_lt (Z6d s))]
 rfl
theorem most_F {s:Int} (h:¬ Z2z s):Z36.f s=some 0:=by
 unfold Z36.f
 rw[right_F h,sb,if_pos (by simp)]
theorem units_T {s i:Int} (h:Z2z s) (hi : -1000000000000<i∧i<1000000000000):Z1w.f s i=some (i*stp s):=by
 unfold Z1w.f Z3b.f
 rw[Z70 h,sb,if_neg (by simp),sb,chkB (Z67 _).1,shift_eq h]
 have h1:=Z6d s
 have h2:=stp_le h
 have h3:i*stp s≤1000000000000*4096:=by
  by_cases h0:0≤i
  ·exact Int.mul_le_mul (by omega) h2 (by omega) (by omega)
  ·have:i*stp s≤0:=Int.mul_nonpos_of_nonpos_of_nonneg (by omega) (by omega);omega
 have h4 : -(1000000000000*4096)≤i*stp s:=by
  by_cases h0:0≤i
  ·have:0≤i*stp s:=Int.mul_nonneg h0 (by omega);omega
  ·have : -i*stp s≤1000000000000*4096:=Int.mul_le_mul (by omega) h2 (by omega) (by omega)
   rw[Int.neg_mul] at this;omega
 show some (i64.wrap (i*stp s))=_
 rw[Zf (by omega) (by omega)]
theorem units_some (s i:Int):∃ r,Z1w.f s i=some r:=by
 unfold Z1w.f Z3b.f
 by_cases h:Z2z s
 ·rw[Z70 h,sb,if_neg (by simp),sb,chkB (Z67 _).1];exact⟨_,rfl⟩
 ·rw[right_F h,sb,if_pos (by simp)];exact⟨_,rfl⟩
theorem low_some (s i:Int):∃ r,Z3c.f s i=some r:=by
 unfold Z3c.f
 obtain⟨r,e⟩:=units_some s (i64.wrap (i-1))
 rw[e];exact⟨_,rfl⟩
theorem least_some (s:Int):∃ r,Z3i.f s=some r:=by
 unfold Z3i.f
 by_cases h:Z2z s
 ·rw[most_T h];exact⟨_,rfl⟩
 ·rw[most_F h];exact⟨_,rfl⟩
theorem most_some (s:Int):∃ r,Z36.f s=some r:=by
 by_cases h:Z2z s
 ·exact⟨_,most_T h⟩
 ·exact⟨_,most_F h⟩
theorem in_some (s i:Int):∃ r,Z42.f s i=some r:=by
 unfold Z42.f
 obtain⟨r1,e1⟩:=least_some s
 obtain⟨r2,e2⟩:=most_some s
 rw[e1,e2,Zaz,sb,sb,sb]
 split
 ·split<;>exact⟨_,rfl⟩
 ·exact⟨_,rfl⟩
theorem Zcg (h:Z06) (l:List Z3) (hl:l.length<1000000000):∀ (suf pre:List Z3) (i:Int),l=pre++suf→i=(pre.length:Int)→∃ r,Z0t.l0 h l i=some r:=by
 intro suf
 induction suf with
 | nil =>
  intro pre i h1 hi
  subst h1
  rw[Z0t.l0,if_neg (by simp[hi])];exact⟨_,rfl⟩
 | cons x suf ih =>
  intro pre i h1 hi
  have hlen:(l.length:Int)=pre.length+(suf.length+1):=by rw[h1];simp
  obtain⟨b1,e1⟩:=in_some h.f1 x.f0
  obtain⟨b2,e2⟩:=low_some h.f1 x.f0
  obtain⟨r,e3⟩:=ih (pre++[x]) (i+1) (by simp[h1]) (by simp;omega)
  rw[Z0t.l0,if_pos (by simp;omega),Z1q h1 hi,sb,e1,sb,e2,sb,Zf (n:=i+1) (by omega) (by omega),e3]
  by_cases c1:(!b1)=true
  ·rw[if_pos c1];exact⟨_,rfl⟩
  rw[if_neg c1]
  have:∃ c,((if(decide (i>(0:Int)))=true then((at? l (i64.wrap (i-(1:Int))))>>=fun b922=>some (decide (b922.f0≥x.f0))) else(some false)):Option (Bool))=some c:=by
   by_cases h0:i>0
   ·rw[if_pos (by simpa using h0),Zf (by omega) (by omega),at_lt (by omega) (by omega)];exact⟨_,rfl⟩
   ·rw[if_neg (by simpa using h0)];exact⟨_,rfl⟩
  obtain⟨c,ec⟩:=this
  rw[ec,sb]
  split
  ·exact⟨_,rfl⟩
  ·split
   ·exact⟨_,rfl⟩
   ·split<;>exact⟨_,rfl⟩
theorem Zah (h:Z06) (l:List Z3) (hl:l.length<1000000000):∃ r,Z0t.f h l=some r:=by
 unfold Z0t.f
 obtain⟨r,e⟩:=Zcg h l hl l [] 0 rfl rfl
 rw[e,sb]
 split
 ·exact⟨_,rfl⟩
 ·cases r<;>exact⟨_,rfl⟩
theorem Z8p (h:Z06):Z0q.l0 h 0=((Z0t.f h h.f6)>>=fun t=>if(t != (0:Int))=true then some (.inl t) else(Z0t.f h h.f7)>>=fun t=>if(t != (0:Int))=true then some (.inl t) else some (.inr ())):=by
 have w1:i64.wrap (0+1)=1:=by decide
 have w2:i64.wrap (1+1)=2:=by decide
 rw[Z0q.l0,if_pos (by decide),chkB (by omega),if_pos (by decide),sb,w1]
 congr 1
 funext t
 split
 ·rfl
 ·rw[         Z0q.l0,if_pos (by decide),chkB (by omega),if_neg (by decide),sb,w2]
  congr 1
  funext t
  split
  ·rfl
  ·rw[Z0q.l0,if_neg (by decide)]
structure Fits (h:Z06):Prop where
 kind:I64 h.f0
 schema:I64 h.f1
 zeroAt:I64 h.f2
 zero:U64 h.f3
 count:U64 h.f4
 sum:I64 h.f5
 pos:∀ b∈h.f6,I64 b.f0∧U64 b.f1
 neg:∀ b∈h.f7,I64 b.f0∧U64 b.f1
theorem fits_of {h:Z06} (r:RHist h):Fits h:=⟨r.r0,r.r1,r.r2,r.r3,r.r4,r.r5,fun b hb=>let q:=r.r6.2 b hb;⟨q.r0,q.r1⟩,fun b hb=>let q:=r.r7.2 b hb;⟨q.r0,q.r1⟩⟩
theorem check_some (h:Z06) (hf:Fits h) (hp:h.f6.length<1000000000) (hn:h.f7.length<1000000000):∃ r,Z0q.f h=some r:=by
 unfold Z0q.f
 obtain⟨r1,e1⟩:=Zah h h.f6 hp
 obtain⟨r2,e2⟩:=Zah h h.f7 hn
 rw[Z8p,e1,e2,sb,Zaz,sb,total3 _ _ _ hp hn (fun b hb=>(hf.pos b hb).2) (fun b hb=>(hf.neg b hb).2) hf.zero,sb]
 have:∃ c,((if(h.f0 != (0:Int))=true then(some (h.f0 != (1:Int))) else(some false)):Option (Bool))=some c:=by split<;>exact⟨_,rfl⟩
 obtain⟨c,ec⟩:=this
 rw[ec,sb]
 split
 ·exact⟨_,rfl⟩
 split
 ·exact⟨_,rfl⟩
 have:∃ c,((if(h.f2 != (-524288))=true then(if(decide (h.f2≤(-262144)))=true then(some true) else(some (decide (h.f2>(262144:Int))))) else(some false)):Option (Bool))=some c:=by
  split
  ·split<;>exact⟨_,rfl⟩
  ·exact⟨_,rfl⟩
 obtain⟨c,ec⟩:=this
 rw[ec,sb]
 split
 ·exact⟨_,rfl⟩
 have:∃ c,((if(r1 != (0:Int))=true then some (.inl r1) else if(r2 != (0:Int))=true then some (.inl r2) else some (.inr ())):Option (Int ⊕ Unit))=some c:=by
  split
  ·exact⟨_,rfl⟩
  ·split<;>exact⟨_,rfl⟩
 obtain⟨c,ec⟩:=this
 rw[ec,sb]
 cases c with
 | inl r=>exact⟨_,rfl⟩
 | inr u =>
  simp only[]
  rw[sb]
  generalize (if cnt h.f6+cnt h.f7+h.f3<18446744073709551616 then((cnt h.f6+cnt h.f7+h.f3,0):Int×Int) else(0,5))=q
  split
  ·exact⟨_,rfl⟩
  ·split<;>exact⟨_,rfl⟩
theorem make_spec (h:Z06) (p n:List Z3) (hf:Fits h) (hp:p.length<10000000) (hn:n.length<10000000) (hpU:∀ b∈p,I64 b.f0∧U64 b.f1) (hnU:∀ b∈n,I64 b.f0∧U64 b.f1) :
  ∃ r e,        Z1t.f h p n=some (r,e)∧r.f6.length<10000000∧r.f7.length<10000000∧(e≠0→r=⟨0,0,0,0,0,0,[],[]⟩) ∧
   (e=0→Fits r∧Z0q.f r=some 0∧Z1t.f r r.f6 r.f7=some (r,0)∧Z4p r.f6∧Z4p r.f7∧(∀ i,tot r.f6 i=tot p i)∧(∀ i,tot r.f7 i=tot n i) ∧
    r.f0=h.f0∧r.f1=h.f1∧r.f2=h.f2∧r.f3=h.f3∧r.f5=h.f5∧r.f4=cnt r.f6+cnt r.f7+r.f3):=by
 rcases Z6j p (by omega) (fun b hb=>(hpU b hb).2) with ⟨o,e1,c1,t1,u1,s1,l1⟩ | ⟨e1,i1,t1⟩
 case inr =>
  have:∃ q,Z1h.f n=some q:=by
   rcases Z6j n (by omega) (fun b hb=>(hnU b hb).2) with ⟨o,e2,_⟩ | ⟨e2,_⟩<;>exact⟨_,e2⟩
  obtain⟨⟨q,e2'⟩,e2⟩:=this
  have hq:e2'=0∨e2'=5:=by
   rcases Z6j n (by omega) (fun b hb=>(hnU b hb).2) with ⟨o,e3,_⟩ | ⟨e3,_⟩<;>rw[e2] at e3<;>simp at e3<;>simp[e3.2]
  unfold Z1t.f
  rw[e1,e2,sb,sb]
  have:(if e2'>5 then e2' else 5)=(5:Int):=by rcases hq with rfl | rfl<;>rfl
  simp only[this]
  exact⟨_,_,rfl,by simp,by simp,fun _=>rfl,fun h=>by simp at h⟩
 rcases Z6j n (by omega) (fun b hb=>(hnU b hb).2) with ⟨o2,e2,c2,t2,u2,s2,l2⟩ | ⟨e2,i2,t2⟩
 case inr =>
  unfold Z1t.f
  rw[e1,e2,sb,sb]
  exact⟨_,_,rfl,by simp,by simp,fun _=>rfl,fun h=>by simp at h⟩
 have hpos:∀ b∈o,I64 b.f0∧U64 b.f1:=fun b hb=>by
  obtain⟨q,hq,e⟩:=s1 b hb
  exact⟨e ▸ (hpU q hq).1,u1 b hb⟩
 have hneg:∀ b∈o2,I64 b.f0∧U64 b.f1:=fun b hb=>by
  obtain⟨q,hq,e⟩:=s2 b hb
  exact⟨e ▸ (hnU q hq).1,u2 b hb⟩
 have htot:=total3 o o2 h.f3 (by omega) (by omega) u1 u2 hf.zero
 by_cases hov:cnt o+cnt o2+h.f3<18446744073709551616
 case neg =>
  rw[if_neg hov] at htot
  unfold Z1t.f
  rw[e1,e2,sb,sb,if_neg (by simp),htot,sb,if_pos (by simp)]
  exact⟨_,_,rfl,by simp,by simp,fun _=>rfl,fun h=>by simp at h⟩
 rw[if_pos hov] at htot
 have hn0:=Z2b c1.nn
 have hn1:=Z2b c2.nn
 have hz:=hf.zero
 have hr:Fits (⟨h.f0,h.f1,h.f2,h.f3,cnt o+cnt o2+h.f3,h.f5,o,o2⟩:Z06):=⟨hf.kind,hf.schema,hf.zeroAt,hf.zero,⟨by simp;omega,hov⟩,hf.sum,hpos,hneg⟩
 obtain⟨c,ec⟩:=check_some _ hr (by simp;omega) (by simp;omega)
 by_cases hc:c=0
 case neg =>
  unfold Z1t.f
  rw[e1,e2,sb,sb,if_neg (by simp),htot,sb,if_neg (by simp),ec,sb,if_pos (by simpa using hc)]
  exact⟨_,_,rfl,by simp,by simp,fun _=>rfl,fun h=>absurd h hc⟩
 subst hc
 have key:∀ (g:Z06) (p n:List Z3),Z1h.f p=some (o,0)→Z1h.f n=some (o2,0)→g.f0=h.f0→g.f1=h.f1→g.f2=h.f2→g.f3=h.f3→g.f5=h.f5→Z1t.f g p n=some ((⟨h.f0,h.f1,h.f2,h.f3,cnt o+cnt o2+h.f3,h.f5,o,o2⟩:Z06),0):=by
  intro g p n q1 q2 g0 g1 g2 g3 g5
  unfold Z1t.f
  rw[q1,q2,sb,sb,if_neg (by simp),g3,htot,sb,if_neg (by simp),g0,g1,g2,g5,ec,sb,if_neg (by simp)]
 exact⟨_,0,key h p n e1 e2 rfl rfl rfl rfl rfl,by simp;omega,by simp;omega,fun h=>absurd rfl h,fun _ =>
  ⟨hr,ec,key _ o o2 (tidy_id o (by omega) u1 c1) (tidy_id o2 (by omega) u2 c2) rfl rfl rfl rfl rfl,c1,c2,t1,t2,rfl,rfl,rfl,rfl,rfl,rfl⟩⟩
end Go.Proofs.YtinhldbfifpakaaGreat.PvGL
set_option linter.unusedVariables false
set_option linter.unusedSimpArgs false
namespace Go.Proofs.YtinhldbfifpakaaGreat.PvGL
open Go Go.Pv Go.Pv.GS Go.IntKind
theorem stp_dvd {s:Int} (h:Z2z s):262144 / stp s*stp s=262144:=by
 have h1:=h.1
 have h2:=h.2
 have:s = -4∨s = -3∨s = -2∨s = -1∨s=0∨s=1∨s=2∨s=3∨s=4∨s=5∨s=6∨s=7∨s=8:=by omega
 rcases this with rfl | rfl | rfl | rfl | rfl | rfl | rfl | rfl | rfl | rfl | rfl | rfl | rfl<;>decide
def InS (s i:Int):Prop:=-262144<i*stp s∧i*stp s≤262144
instance (s i:Int):Decidable (InS s i):=inferInstanceAs (Decidable (_∧_))
theorem inS_iff {s i:Int} (h:Z2z s):InS s i ↔ -(262144 / stp s)+1≤i∧i≤262144 / stp s:=by
 have hp:=Z6d s
 have hd:=stp_dvd h
 unfold InS
 generalize 262144 / stp s=q at *
 generalize stp s=st at *
 constructor
 ·rintro⟨h1,h2⟩
  constructor
  ·have : -q*st<i*st:=by rw[Int.neg_mul];omega
   have:=Int.lt_of_mul_lt_mul_right this (Int.le_of_lt hp);omega
  ·have:i*st≤q*st:=by omega
   exact Int.le_of_mul_le_mul_right this hp
 ·rintro⟨h1,h2⟩
  constructor
  ·have:=Int.mul_lt_mul_of_pos_right (show -q<i by omega) hp
   rw[Int.neg_mul] at this;omega
  ·have:=Int.mul_le_mul_of_nonneg_right h2 (Int.le_of_lt hp);omega
theorem Z6q {s i:Int} (hi:InS s i) : -262144<i∧i≤262144:=by
 have hp:=Z6d s
 obtain⟨h1,h2⟩:=hi
 constructor
 ·by_cases h:i ≤ -262144
  ·have:=Int.mul_le_mul_of_nonneg_right h (Int.le_of_lt hp)
   have h3 : -262144*stp s ≤ -262144*1:=by
    have:=Int.mul_le_mul_of_nonneg_left (show 1≤stp s by omega) (show(0:Int)≤262144 by omega)
    omega
   omega
  ·omega
 ·by_cases h:262144<i
  ·have:=Int.mul_le_mul_of_nonneg_right (show 262145≤i by omega) (Int.le_of_lt hp)
   have h3:=Int.mul_le_mul_of_nonneg_left (show 1≤stp s by omega) (show(0:Int)≤262145 by omega)
   omega
  ·omega
theorem in_T {s i:Int} (h:Z2z s):Z42.f s i=some (decide (InS s i)):=by
 have hp:=Z6d s
 have hq:0≤262144 / stp s∧262144 / stp s≤262144:=⟨Int.ediv_nonneg (by omega) (by omega),Int.ediv_le_self _ (by omega)⟩
 unfold Z42.f Z3i.f
 rw[Z70 h,most_T h]
 simp only[sb,if_pos]
 rw[Zf (n:=0-_) (by omega) (by omega),Zf (by omega) (by omega),ifand,sb]
 congr 1
 rw[← Bool.decide_and,decide_eq_decide,inS_iff h]
 constructor<;>intro h<;>constructor<;>omega
theorem low_T {s i:Int} (h:Z2z s) (hi:InS s i):Z3c.f s i=some ((i-1)*stp s):=by
 have:=Z6q hi
 unfold Z3c.f
 rw[Zf (by omega) (by omega),units_T h (by omega)];rfl
theorem units_in {s i:Int} (h:Z2z s) (hi:InS s i):Z1w.f s i=some (i*stp s):=by
 have:=Z6q hi
 exact units_T h (by omega)
end Go.Proofs.YtinhldbfifpakaaGreat.PvGL
set_option linter.unusedVariables false
set_option linter.unusedSimpArgs false
namespace Go.Proofs.YtinhldbfifpakaaGreat.PvGL
open Go Go.Pv Go.Pv.GS Go.IntKind
structure BOk (s z:Int) (b:Z3):Prop where
 ins:InS s b.f0
 pos:0<b.f1
 low:z≤(b.f0-1)*stp s
def Up:Option Int→List Z3→Prop
 | _,[]=>True
 | p,b::l=>(∀ q,p=some q→q<b.f0)∧Up (some b.f0) l
theorem up_iff:∀ (l:List Z3) (p:Option Int),Up p l↔(∀ q,p=some q→∀ b∈l,q<b.f0)∧l.Pairwise (fun a b=>a.f0<b.f0)
 | [],p=>by simp[Up]
 | x::l,p=>by
  rw[Up,up_iff l,List.pairwise_cons]
  constructor
  ·rintro⟨h1,h2,h3⟩
   refine⟨fun q hq b hb => ?_,fun b hb=>h2 _ rfl b hb,h3⟩
   have h4:=h1 q hq
   rcases List.mem_cons.1 hb with rfl | hb
   ·exact h4
   ·have:=h2 _ rfl b hb;omega
  ·rintro⟨h1,h2,h3⟩
   exact⟨fun q hq=>h1 q hq x (by simp),fun q hq b hb=>by cases hq;exact h2 b hb,h3⟩
structure Side (s z:Int) (l:List Z3):Prop where
 len:l.length≤512
 ok:∀ b∈l,BOk s z b
 up:l.Pairwise (fun a b=>a.f0<b.f0)
theorem Side.canon {s z:Int} {l:List Z3} (h:Side s z l):Z4p l:=⟨h.up,fun b hb=>(h.ok b hb).pos⟩
structure Z3r (h:Z06):Prop where
 kind:h.f0=0∨h.f0=1
 schema:Z2z h.f1
 zero:h.f2 = -524288∨(-262144<h.f2∧h.f2≤262144)
 pos:Side h.f1 h.f2 h.f6
 neg:Side h.f1 h.f2 h.f7
 total:cnt h.f6+cnt h.f7+h.f3<18446744073709551616
 count:h.f4=cnt h.f6+cnt h.f7+h.f3
theorem last_pre {l pre:List Z3} {x:Z3} {suf:List Z3} {i:Int} (h1:l=pre++x::suf) (hi:i=(pre.length:Int)) (h0:0<i) (hl:l.length<1000000000) :
  ∃ q,(pre.getLast?).map (·.f0)=some q∧∃ y,at? l (i64.wrap (i-1))=some y∧y.f0=q:=by
 rcases List.eq_nil_or_concat pre with rfl | ⟨P,p,rfl⟩
 ·simp at hi;omega
 ·simp only[List.concat_eq_append] at *
  have hlen:l.length=P.length+1+(suf.length+1):=by rw[h1];simp;omega
  have hi2:i=(P.length:Int)+1:=by rw[hi];simp
  rw[Zf (by omega) (by omega)]
  exact⟨p.f0,by simp,p,Z1q (pre:=P) (suf:=x::suf) (by simp[h1]) (by omega),rfl⟩
theorem no_pre {pre:List Z3} {i:Int} (hi:i=(pre.length:Int)) (h0:¬ 0<i):(pre.getLast?).map (·.f0)=none:=by
 have:pre=[]:=List.length_eq_zero_iff.1 (by omega)
 subst this;rfl
theorem buckets_l0 (h:Z06) (l:List Z3) (hs:Z2z h.f1) (hl:l.length<1000000000):∀ (suf pre:List Z3) (i:Int),l=pre++suf→i=(pre.length:Int)→(∀ b∈suf,U64 b.f1) →
  ∃ r,Z0t.l0 h l i=some r∧(∀ c,r = .inl c→c≠0)∧(r = .inr ()↔(∀ b∈suf,BOk h.f1 h.f2 b)∧Up ((pre.getLast?).map (·.f0)) suf):=by
 intro suf
 induction suf with
 | nil =>
  intro pre i h1 hi _
  subst h1
  rw[Z0t.l0,if_neg (by simp[hi])]
  exact⟨_,rfl,by simp,by simp[Up]⟩
 | cons x suf ih =>
  intro pre i h1 hi hU
  have hx:=hU x (by simp)
  have hlen:(l.length:Int)=pre.length+(suf.length+1):=by rw[h1];simp
  rw[Z0t.l0,if_pos (by simp;omega),Z1q h1 hi,sb,in_T hs,sb]
  by_cases c1:InS h.f1 x.f0
  case neg =>
   rw[if_pos (by simp[c1])]
   exact⟨_,rfl,by simp,by simp;intro h;exact absurd h.ins c1⟩
  rw[if_neg (by simp[c1])]
  have hprev:∃ c:Bool,((if(decide (i>(0:Int)))=true then((at? l (i64.wrap (i-(1:Int))))>>=fun b922=>some (decide (b922.f0≥x.f0))) else(some false)):Option (Bool))=some c∧(c=false↔∀ q,(pre.getLast?).map (·.f0)=some q→q<x.f0):=by
   by_cases h0:0<i
   ·obtain⟨q,e1,y,e2,e3⟩:=last_pre h1 hi h0 hl
    rw[if_pos (by simpa using h0),e2,sb]
    exact⟨_,rfl,by rw[e1,e3];simp⟩
   ·rw[if_neg (by simpa using h0)]
    exact⟨_,rfl,by rw[no_pre hi h0];simp⟩
  obtain⟨c,ec,hc⟩:=hprev
  rw[ec,sb,low_T hs c1]
  cases c with
  | true =>
   rw[if_pos rfl]
   refine⟨_,rfl,by simp,by simp;intro _ _ h2;exact absurd (hc.2 h2.1) (by simp)⟩
  | false =>
   rw[if_neg (by simp)]
   by_cases c2:x.f1=0
   ·rw[if_pos (by simpa using c2)]
    exact⟨_,rfl,by simp,by simp;intro h;have:=h.pos;omega⟩
   rw[if_neg (by simpa using c2),sb]
   by_cases c3:(x.f0-1)*stp h.f1<h.f2
   ·rw[if_pos (by simpa using c3)]
    exact⟨_,rfl,by simp,by simp;intro h;have:=h.low;omega⟩
   rw[if_neg (by simpa using c3),Zf (n:=i+1) (by omega) (by omega)]
   obtain⟨r,e,e1,e2⟩:=ih (pre++[x]) (i+1) (by simp[h1]) (by simp;omega) (fun b hb=>hU b (by simp[hb]))
   refine⟨r,e,e1,?_⟩
   rw[e2]
   simp only[List.getLast?_append,List.getLast?_singleton,Option.some_or,Option.map_some,Up,List.forall_mem_cons]
   have hb:BOk h.f1 h.f2 x:=⟨c1,by omega,by omega⟩
   constructor
   ·rintro⟨a,b⟩;exact⟨⟨hb,a⟩,hc.1 rfl,b⟩
   ·rintro⟨⟨_,a⟩,_,b⟩;exact⟨a,b⟩
theorem Z8r (h:Z06) (l:List Z3) (hs:Z2z h.f1) (hl:l.length<1000000000) (hU:∀ b∈l,U64 b.f1):∃ r,Z0t.f h l=some r∧(r=0↔Side h.f1 h.f2 l):=by
 unfold Z0t.f
 by_cases h0:l.length>512
 ·rw[if_pos (by simp;omega)]
  exact⟨_,rfl,by simp;intro h;have:=h.len;omega⟩
 ·rw[if_neg (by simp;omega)]
  obtain⟨r,e,e1,e2⟩:=buckets_l0 h l hs hl l [] 0 rfl rfl hU
  rw[e,sb]
  cases r with
  | inl c =>
   refine⟨c,rfl,?_⟩
   constructor
   ·intro h;exact absurd h (e1 c rfl)
   ·intro h
    exact absurd (e2.2 ⟨h.ok,(up_iff l _).2 ⟨by simp,h.up⟩⟩) (by simp)
  | inr u =>
   refine⟨0,rfl,?_⟩
   obtain⟨h1,h2⟩:=e2.1 rfl
   exact⟨fun _=>⟨by omega,h1,((up_iff l _).1 h2).2⟩,fun _=>rfl⟩
theorem Zce (h:Z06) (hf:Fits h) (hp:h.f6.length<1000000000) (hn:h.f7.length<1000000000):∃ r,Z0q.f h=some r∧(r=0↔Z3r h):=by
 unfold Z0q.f
 have hk:((if(h.f0 != (0:Int))=true then(some (h.f0 != (1:Int))) else(some false)):Option (Bool))=some (!decide (h.f0=0∨h.f0=1)):=by
  by_cases h1:h.f0=0
  ·simp[h1]
  ·by_cases h2:h.f0=1<;>simp[h1,h2]
 rw[hk,sb]
 by_cases c1:h.f0=0∨h.f0=1
 case neg=>rw[if_pos (by simpa using c1)];exact⟨_,rfl,by simp;intro h;exact c1 h.kind⟩
 rw[if_neg (by rw[decide_eq_true c1];decide)]
 by_cases c2:Z2z h.f1
 case neg=>rw[right_F c2,sb,if_pos (by simp)];exact⟨_,rfl,by simp;intro h;exact c2 h.schema⟩
 rw[Z70 c2,sb,if_neg (by simp)]
 have hz:((if(h.f2 != (-524288))=true then(if(decide (h.f2≤(-262144)))=true then(some true) else(some (decide (h.f2>(262144:Int))))) else(some false)):Option (Bool))=some (!decide (h.f2 = -524288∨(-262144<h.f2∧h.f2≤262144))):=by
  by_cases h1:h.f2 = -524288
  ·simp[h1]
  ·by_cases h2:h.f2 ≤ -262144
   ·simp[h1,h2]
   ·have h4 : -262144<h.f2:=by omega
    by_cases h3:h.f2≤262144
    ·simp[h1,h2,h3,h4]
    ·simp[h1,h2,h3,h4];omega
 rw[hz,sb]
 by_cases c3:h.f2 = -524288∨(-262144<h.f2∧h.f2≤262144)
 case neg=>rw[if_pos (by simp[c3])];exact⟨_,rfl,by simp;intro h;exact c3 h.zero⟩
 rw[if_neg (by simp[c3])]
 obtain⟨r1,e1,i1⟩:=Z8r h h.f6 c2 hp (fun b hb=>(hf.pos b hb).2)
 obtain⟨r2,e2,i2⟩:=Z8r h h.f7 c2 hn (fun b hb=>(hf.neg b hb).2)
 rw[Z8p,e1,e2,sb,sb]
 by_cases d1:r1=0
 case neg=>rw[if_pos (by simpa using d1),sb];exact⟨_,rfl,⟨fun h=>absurd h d1,fun h=>absurd (i1.2 h.pos) d1⟩⟩
 rw[if_neg (by simpa using d1)]
 by_cases d2:r2=0
 case neg=>rw[if_pos (by simpa using d2),sb];exact⟨_,rfl,⟨fun h=>absurd h d2,fun h=>absurd (i2.2 h.neg) d2⟩⟩
 rw[if_neg (by simpa using d2),sb]
 simp only[]
 rw[total3 _ _ _ hp hn (fun b hb=>(hf.pos b hb).2) (fun b hb=>(hf.neg b hb).2) hf.zero,sb]
 by_cases c4:cnt h.f6+cnt h.f7+h.f3<18446744073709551616
 case neg=>rw[if_neg c4,if_pos (by simp)];exact⟨_,rfl,by simp;intro h;exact c4 h.total⟩
 rw[if_pos c4,if_neg (by simp)]
 by_cases c5:cnt h.f6+cnt h.f7+h.f3=h.f4
 ·rw[if_neg (by simpa using c5)]
  exact⟨0,rfl,fun _=>⟨c1,c2,c3,i1.1 d1,i2.1 d2,c4,c5.symm⟩,fun _=>rfl⟩
 ·rw[if_pos (by simpa using c5)]
  exact⟨_,rfl,by simp;intro h;exact c5 h.count.symm⟩
theorem check_T (h:Z06) (hf:Fits h) (hv:Z3r h):Z0q.f h=some 0:=by
 have hl:=hv.pos.len
 have hl2:=hv.neg.len
 obtain⟨r,e,i⟩:=Zce h hf (by omega) (by omega)
 rw[e,i.2 hv]
end Go.Proofs.YtinhldbfifpakaaGreat.PvGL
