import Derived.Test.YtpoihfcehejgfaaGreatPxBlockReads15
set_option linter.unusedVariables false
set_option linter.unusedSimpArgs false
set_option maxRecDepth 10000
namespace Go.Proofs.YtpoihfcehejgfaaGreat.PvGS2
open Go Go.Pv Go.Pv.GS Go.IntKind
theorem snoc_at' {α:Type} (l:List α) (x:α) (h:l.length<1000000000000):at? (l++[x]) (i64.wrap (((l++[x]).length:Int)-1))=some x:=by
 rw[List.length_append,List.length_singleton,Z8 (by omega) (by omega)];exact Z06 (pre:=l) (suf:=[]) rfl (by omega)
theorem snoc_set' {α:Type} (l:List α) (x y:α) (h:l.length<1000000000000):(l++[x]).set (Int.toNat (i64.wrap (((l++[x]).length:Int)-1))) y=l++[y]:=by
 rw[List.length_append,List.length_singleton,Z8 (by omega) (by omega),show(((l.length+1:Nat):Int)-1).toNat=l.length by omega];simp
theorem wbit {b:List Int} {f:Nat} {s:List Bool} (h:Laid b f s) (hl:s.length<1000000000000) (x:Bool):∃ (b':List Int) (f':Nat),Z0b.f b (f:Int) x=some (b',(f':Int))∧Laid b' f' (s++[x]):=by
 have hlen:=h.len;have hlt:=h.lt;obtain⟨b0,y,f0,e,h0⟩:∃ (b0:List Int) (y:Int) (f0:Nat),(((if((f:Int)==(0:Int))=true then((chk ((b.length+[0].length)*1≤140737488355328))>>=fun _=>some (b++[0],8)) else(some (b,(f:Int)))):Option ((List Int)×Int))=some (b0++[y],((f0+1:Nat):Int)))∧Laid (b0++[y]) f0 (s++[false]):=by
  by_cases q:f=0
  ·subst q
   rw[if_pos (by simp),chkB (by simp;omega)];exact⟨b,0,7,rfl,h.new0⟩
  ·rw[if_neg (by simpa using q)]
   obtain⟨f0,rfl⟩:∃ f0,f=f0+1:=⟨f-1,by omega⟩
   have h':=h.old0;rcases List.eq_nil_or_concat b with rfl | ⟨b0,y,rfl⟩
   ·simp at hlen
   ·rw[List.concat_eq_append] at *
    exact⟨b0,y,f0,rfl,h'⟩
 have hl0:b0.length<1000000000000:=by have:=h0.lt;have:=h0.len;simp at this;omega
 have hf0:=h0.lt;unfold Z0b.f;rw[e,sb];dsimp only;have w:u64.wrap (((f0+1:Nat):Int)-1)=(f0:Int):=by rw[Z2l (by omega) (by omega)];omega
 rw[w];cases x with
 | false=>rw[if_neg (by simp),sb];exact⟨_,_,rfl,h0⟩
 | true =>
  rw[if_pos rfl,snoc_at' _ _ (by omega),sb,chkB (by omega),sb,snoc_set' _ _ _ (by omega)];refine⟨_,_,rfl,?_⟩;have:=h0.set1;rw[Zbo] at this;exact this
theorem wput_l0 (n:Int) (hn0:0≤n) (hn:n<18446744073709551616):∀ (k:Nat) (b:List Int) (f:Nat) (s:List Bool),k≤64→s.length+k<1000000000000→Laid b f s →
  ∃ (b':List Int) (f':Nat),Zy.l0 n b (f:Int) ((k:Int)-1)=some (b',(f':Int))∧Laid b' f' (s++nb n.toNat k):=by
 intro k
 induction k with
 | zero =>
  intro b f s hk hl h;rw[Zy.l0,if_neg (by simp)];exact⟨b,f,rfl,by simpa[nb] using h⟩
 | succ k ih =>
  intro b f s hk hl h;rw[show((k+1:Nat):Int)-1=(k:Int) by omega];rw[Zy.l0,if_pos (by simp),Z2l (n:=(k:Int)) (by omega) (by omega),chkB (by omega),Int.toNat_natCast,bit_and hn0 hn k (by omega),Z8 (n:=(k:Int)-1) (by omega) (by omega)];obtain⟨b1,f1,e1,h1⟩:=wbit h (by omega) (n.toNat.testBit k);rw[e1,sb];obtain⟨b2,f2,e2,h2⟩:=ih b1 f1 _ (by omega) (by simp;omega) h1;exact⟨b2,f2,e2,by rw[nb];simpa using h2⟩
theorem wput {b:List Int} {f:Nat} {s:List Bool} (h:Laid b f s) (hl:s.length<900000000000) {n:Int} (hn0:0≤n) (hn:n<18446744073709551616) {k:Nat} (hk:k≤64) :
  ∃ (b':List Int) (f':Nat),Zy.f b (f:Int) n (k:Int)=some (b',(f':Int))∧Laid b' f' (s++nb n.toNat k):=by
 unfold Zy.f;have e:(if(if(64:Int)<(k:Int) then(64:Int) else(k:Int))>(0:Int) then(if(64:Int)<(k:Int) then(64:Int) else(k:Int)) else(0:Int))=(k:Int):=by
  by_cases q:(64:Int)<(k:Int)
  ·omega
  ·rw[if_neg q];by_cases q2:(k:Int)>0
   ·rw[if_pos q2]
   ·rw[if_neg q2];omega
 rw[e,Z8 (by omega) (by omega)];obtain⟨b',f',e,h⟩:=wput_l0 n hn0 hn k b f s hk (by omega) h;rw[e,sb];exact⟨b',f',rfl,h⟩
def blen:Nat→Nat
 | 0=>0
 | n+1=>blen ((n+1) / 2)+1
decreasing_by omega
theorem Z9g {n:Nat} (h:0<n):blen n=blen (n / 2)+1:=by
 obtain⟨m,rfl⟩:∃ m,n=m+1:=⟨n-1,by omega⟩
 rw[blen]
theorem blen_le:∀ {k n:Nat},n<2 ^ k↔blen n≤k
 | 0,n=>by
  rcases Nat.eq_zero_or_pos n with rfl | h
  ·simp[blen]
  ·rw[Z9g h];simp;omega
 | k+1,n=>by
  rcases Nat.eq_zero_or_pos n with rfl | h
  ·simp[blen,Nat.pow_pos]
  ·rw[Z9g       h,Nat.pow_succ,Nat.add_le_add_iff_right,← blen_le (k:=k)]
   omega
theorem long_l0:∀ (k n:Nat) (a:Int),n<2 ^ k→0≤a→a+k≤1000→Z1w.l0 (n:Int) a=some (a+blen n):=by
 intro k
 induction k with
 | zero=>intro n a h _ _;rw[show n=0 by simpa using h,Z1w.l0,if_neg (by simp)];simp[blen]
 | succ k ih =>
  intro n a h h0 h1;rcases Nat.eq_zero_or_pos n with rfl | hn
  ·rw[Z1w.l0,if_neg (by simp)];simp[blen]
  ·rw[        Z1w.l0,if_pos (by simp;omega),Int.fdiv_eq_ediv_of_nonneg _ (by omega),show(n:Int) / 2=((n / 2:Nat):Int) by omega,Z8     (by omega) (by omega)]
   rw[ih (n / 2) (a+1) (by rw[Nat.pow_succ] at h;omega) (by omega) (by omega),Z9g hn];congr 1;omega
theorem long_eq {n:Nat} (h:n<18446744073709551616):Z1w.f (n:Int)=some (blen n:Int):=by
 unfold Z1w.f;rw[long_l0 64 n 0 (by simpa using h) (by omega) (by omega),sb];simp
theorem blen64 {n:Nat} (h:n<18446744073709551616):blen n≤64:=blen_le.1 (by simpa using h)
def cls (k:Nat):Nat:=if k≤0 then 0 else if k≤3 then 1 else if k≤7 then 2 else if k≤12 then 3 else if k≤20 then 4 else if k≤32 then 5 else 6
def wid:Nat→Nat
 | 0=>0 | 1=>3 | 2=>7 | 3=>12 | 4=>20 | 5=>32 | _=>64
abbrev cl:List Int:=[0,3,7,12,20,32,64]
theorem cl_at:∀ i:Fin 7,cl[i.1]? = some ((wid i.1:Nat):Int):=by decide
theorem Z9d {i:Nat} (h:i<7):cl[i]? = some ((wid i:Nat):Int):=cl_at ⟨i,h⟩
theorem Z8x    (k : Nat) : cls k < 7 := by unfold cls; repeat' split
                                           all_goals omega
theorem Zd6 (i:Nat):wid i≤64:=by unfold wid;split<;>omega
theorem le_wid {k:Nat} (h:k≤64):k≤wid (cls k):=by
 unfold cls;repeat' split
 all_goals simp only[wid];omega
theorem wid_lt {k i:Nat} (h:i<cls k):wid i<k:=by
 unfold cls at h;have:i<6:=by have:=Z8x k;unfold cls at this;omega
 rcases(show i=0∨i=1∨i=2∨i=3∨i=4∨i=5 by omega) with rfl | rfl | rfl | rfl | rfl | rfl<;>simp only[wid]<;>(revert h;repeat' split)<;>omega
theorem cls_of {k i:Nat} (h1:k≤wid i) (h2:∀ j,j<i→wid j<k) (hi:i<7):cls k=i:=by
 rcases Nat.lt_trichotomy (cls k) i with h | h | h
 ·have:=h2 _ h
  have h3:k≤64:=by have:=Zd6 i;omega
  have:=le_wid h3;omega
 ·exact h
 ·have:=wid_lt h;omega
theorem less_int (a b:Int):Z51.f a b=some (decide (a<b)):=by
 unfold Z51.f Z1i.f;simp[sb]
theorem binI_l0 (t:Nat) (ht:t≤64):∀ (n i j:Nat),j-i≤n→i≤cls t→cls t≤j→j≤7→Z02.l0 cl (t:Int) (i:Int) (j:Int)=some ((cls t:Nat):Int):=by
 intro n
 induction n with
 | zero =>
  intro i j h1 h2 h3 h4;rw[Z02.l0,if_neg (by simp;omega)];congr 2;omega
 | succ n ih =>
  intro i j h1 h2 h3 h4;by_cases hij:i<j
  case neg=>rw[Z02.l0,if_neg (by simp;omega)];congr 2;omega
  rw[Z02.l0,if_pos (by simp;omega),half_eq (by omega),Z4j rfl (Z9d (by omega)),sb,less_int,sb];by_cases hlt:wid ((i+j) / 2)<t
  ·rw[if_pos (by simp;omega),sb,Z8     (by omega) (by omega)]
   refine ih ((i+j) / 2+1) j (by omega) ?_ h3 h4;rcases Nat.lt_or_ge ((i+j) / 2) (cls t) with h | h
   ·exact h
   ·have:=le_wid ht
    have mono:wid (cls t)≤wid ((i+j) / 2):=by
     have a:=Z8x t;have hd:(i+j) / 2<7:=by omega
     generalize cls t=c at *;generalize (i+j) / 2=d at *;rcases(show c=0∨c=1∨c=2∨c=3∨c=4∨c=5∨c=6 by omega) with rfl | rfl | rfl | rfl | rfl | rfl | rfl <;>
     rcases(show d=0∨d=1∨d=2∨d=3∨d=4∨d=5∨d=6 by omega) with rfl | rfl | rfl | rfl | rfl | rfl | rfl<;>first | omega | (simp only[wid];omega)
    omega
  ·rw[if_neg (by simp;omega),sb]
   refine ih i ((i+j) / 2) (by omega) h2 ?_ (by omega);rcases Nat.lt_or_ge ((i+j) / 2) (cls t) with h | h
   ·exact absurd (wid_lt h) hlt
   ·exact h
theorem binI (t:Nat) (ht:t≤64):∃ b,Z02.f cl (t:Int)=some (((cls t:Nat):Int),b):=by
 unfold Z02.f;have e:=binI_l0 t ht 7 0 7 (by omega) (by omega) (by have:=Z8x t;omega) (by omega);rw[show((cl.length:Nat):Int)=((7:Nat):Int) from rfl,show(0:Int)=((0:Nat):Int) from rfl,e,sb,if_pos (by have:=Z8x t;simp;omega),Z4j rfl (Z9d (Z8x t)),sb];split
 ·exact⟨_,rfl⟩
 ·unfold                Z2q.f
  simp only[sb,bne_self_eq_false];exact⟨_,rfl⟩
def cnt2 (n:Nat):List Bool:=List.replicate (cls (blen n)) true++((if cls (blen n)<6 then [false] else [])++nb n (wid (cls (blen n))))
theorem Z0t (n:Nat):(cnt2 n).length≤71:=by
 have:=Z8x (blen n);have:=Zd6 (cls (blen n));simp only[cnt2,List.length_append,List.length_replicate,Z5e];split<;>simp<;>omega
theorem wcount_l0 (n:Int) (c:List Int) (t:Int×Bool) (k:Nat) (ht:t.1=(k:Int)) (hk:k<100):∀ (m:Nat) (b:List Int) (f:Nat) (s:List Bool) (i:Int),i=((k-m:Nat):Int)→m≤k→s.length+m<1000000000000→Laid b f s →
  ∃ (b':List Int) (f':Nat),Z9.l0 n c t b (f:Int) i=some (b',(f':Int))∧Laid b' f' (s++List.replicate m true):=by
 intro m
 induction m with
 | zero=>intro b f s i hi hm hl h;rw[Z9.l0,if_neg (by simp;omega)];exact⟨b,f,rfl,by simpa using h⟩
 | succ m ih =>
  intro b f s i hi hm hl h;rw[Z9.l0,if_pos (by simp;omega),Z8 (by omega) (by omega)];obtain⟨b1,f1,e1,h1⟩:=wbit h (by omega) true;rw[e1,sb];obtain⟨b2,f2,e2,h2⟩:=ih b1 f1 _ (i+1) (by omega) (by omega) (by simp;omega) h1;exact⟨b2,f2,e2,by rw[List.replicate_succ];simpa using h2⟩
theorem Z6a {b:List Int} {f:Nat} {s:List Bool} (h:Laid b f s) (hl:s.length<800000000000) {n:Int} (hn0:0≤n) (hn:n<18446744073709551616) :
  ∃ (b':List Int) (f':Nat),Z9.f b (f:Int) n=some (b',(f':Int))∧Laid b' f' (s++cnt2 n.toNat):=by
 unfold Z9.f Z2x.f;obtain⟨m,rfl⟩:=Int.eq_ofNat_of_zero_le hn0;have hb:=blen64 (n:=m) (by omega);have hc:=Z8x (blen m);obtain⟨t,ht⟩:=binI (blen m) hb;rw[sb,long_eq (by omega),sb,ht,sb];obtain⟨b1,f1,e1,h1⟩:=wcount_l0 (m:Int) cl (((cls (blen m):Nat):Int),t) (cls (blen m)) rfl (by omega) (cls (blen m)) b f s 0 (by omega) (by omega) (by omega) h;rw[e1,sb];dsimp only;have w:i64.wrap (((cl.length:Nat):Int)-1)=6:=by decide
 rw[w];have hs:(s++List.replicate (cls (blen m)) true).length<1000000000000:=by simp;omega
 rw[Int.toNat_natCast,cnt2,← List.append_assoc];by_cases h6:cls (blen m)<6
 ·obtain⟨b2,f2,e2,h2⟩:=wbit h1 hs false
  rw[if_pos (by simp;omega),e2,sb,sb,Z4j rfl (Z9d hc),sb];obtain⟨b3,f3,e3,h3⟩:=wput h2 (by simp;omega) (n:=(m:Int)) (by omega) hn (Zd6 (cls (blen m)));dsimp only;rw[e3,sb,if_pos h6];exact⟨b3,f3,rfl,by simpa using h3⟩
 ·rw[if_neg (by simp;omega),sb]
  dsimp only;rw[Z4j rfl (Z9d hc),sb];obtain⟨b3,f3,e3,h3⟩:=wput h1 (by simp;omega) (n:=(m:Int)) (by omega) hn (Zd6 (cls (blen m)));rw[e3,sb,if_neg h6];exact⟨b3,f3,rfl,by simpa using h3⟩
theorem rput_l0 (k:Nat) (hk:k≤64):∀ (m n:Nat) (a:List Bool) (i:Int),i=((k-m:Nat):Int)→m≤k→n<18446744073709551616→a.length+m<1000000000000→Z2w.l0 (k:Int) (n:Int) (strB a) i=some (strB (nb n m++a)):=by
 intro m
 induction m with
 | zero =>
  intro n a i hi hm hn hl;rw[Z2w.l0,if_neg (by simp;omega),sb,if_neg (by simp)];rfl
 | succ m ih =>
  intro n a i hi hm hn hl;have h1:Int.tmod (n:Int) 2=((n % 2:Nat):Int):=by rw[Int.tmod_eq_emod_of_nonneg (by omega)];omega
  have h2:Int.tdiv (n:Int) 2=((n / 2:Nat):Int):=by rw[Int.tdiv_eq_ediv_of_nonneg (by omega)];omega
  rw[Z2w.l0,if_pos (by simp;omega),sb,if_pos (by simp;omega),h1,h2,Z2l (by omega) (by omega),Z8 (by omega) (by omega),nb_snoc];have e1:(⟨#[49]⟩:ByteArray)=strB [true]:=rfl;have e0:(⟨#[48]⟩:ByteArray)=strB [false]:=rfl;rcases Nat.mod_two_eq_zero_or_one n with h | h
  ·rw[if_neg (by rw[h];simp),e0,chkB (by rw[Zv       ,Zv       ];simp;omega),sb,← Z0q        ,ih (n / 2) _ (i+1) (by omega) (by omega) (by omega) (by simp;omega)]
   simp[h]
  ·rw[if_pos (by rw[h];simp),e1,chkB (by rw[Zv       ,Zv       ];simp;omega),sb,← Z0q        ,ih (n / 2) _ (i+1) (by omega) (by omega) (by omega) (by simp;omega)]
   simp[h]
theorem rput {n k:Nat} (hk:k≤64) (hn:n<18446744073709551616):Z2w.f (n:Int) (k:Int)=some (strB (nb n k)):=by
 unfold Z2w.f;rw[← strB_nil,rput_l0 k hk k n [] 0 (by omega) (by omega) hn (by simp;omega),sb,List.append_nil]
theorem rclass_l0:∀ (k n:Nat) (a:Int),n<2 ^ k→0≤a→a+k≤1000→n<18446744073709551616→Z1j.l0 (n:Int) a=some (a+blen n):=by
 intro k
 induction k with
 | zero=>intro n a h _ _ _;rw[show n=0 by simpa using h,Z1j.l0,if_neg (by simp)];simp[blen]
 | succ k ih =>
  intro n a h h0 h1 h2;rcases Nat.eq_zero_or_pos n with rfl | hn
  ·rw[Z1j.l0,if_neg (by simp)];simp[blen]
  ·rw[        Z1j.l0,if_pos (by simp;omega),Int.tdiv_eq_ediv_of_nonneg (by omega),show(n:Int) / 2=((n / 2:Nat):Int) by omega,Z2l   (by omega) (by omega),Z8     (by omega) (by omega)]
   rw[ih (n / 2) (a+1) (by rw[Nat.pow_succ] at h;omega) (by omega) (by omega) (by omega),Z9g hn];congr 1;omega
theorem rclass_l1 {t:Nat} (ht:t≤64):∀ (m i:Nat),i+m=cls t→Z1j.l1 (t:Int) (i:Int)=some ((cls t:Nat):Int):=by
 intro m
 induction m with
 | zero =>
  intro i h;have:=le_wid ht;have:=Z8x t;rw[Z1j.l1,Z4j rfl (Z9d (by omega)),sb,if_neg (by rw[show i=cls t by omega];simp;omega),show i=cls t by omega]
 | succ m ih =>
  intro i h;have:=Z8x t;have:=wid_lt (k:=t) (i:=i) (by omega);rw[Z1j.l1,Z4j rfl (Z9d (by omega)),sb,if_pos (by simp;omega),Z8 (by omega) (by omega)];exact ih (i+1) (by omega)
theorem rclass {n:Nat} (hn:n<18446744073709551616):Z1j.f (n:Int)=some (((cls (blen n):Nat):Int),((wid (cls (blen n)):Nat):Int)):=by
 unfold Z1j.f;rw[rclass_l0 64 n 0 (by simpa using hn) (by omega) (by omega) hn,sb,Int.zero_add,show Z1j.l1 ((blen n:Nat):Int) 0=_ from rclass_l1 (blen64 hn) (cls (blen n)) 0 (by omega),sb,Z4j rfl (Z9d (Z8x _)),sb]
theorem rcount_l0 (n:Int) (t:Int×Int) (k:Nat) (ht:t.1=(k:Int)) (hk:k<100):∀ (m:Nat) (a:List Bool) (i:Int),i=((k-m:Nat):Int)→m≤k→a.length+m<1000→Z00.l0 n t (strB a) i=some (strB (a++List.replicate m true)):=by
 intro m
 induction m with
 | zero=>intro a i hi hm hl;rw[Z00.l0,if_neg (by simp;omega)];simp
 | succ m ih =>
  intro a i hi hm hl;have e1:(⟨#[49]⟩:ByteArray)=strB [true]:=rfl;rw[Z00.l0,if_pos (by simp;omega),e1,chkB (by rw[Zv,Zv];simp;omega),Z8 (by omega) (by omega),← Z0q,ih _ (i+1) (by omega) (by omega) (by simp;omega),List.replicate_succ];simp
theorem Z7p {n:Nat} (hn:n<18446744073709551616):Z00.f (n:Int)=some (strB (cnt2 n)):=by
 have hc:=Z8x (blen n);have hw:=Zd6 (cls (blen n));have e0:(⟨#[48]⟩:ByteArray)=strB [false]:=rfl;unfold Z00.f;rw[rclass hn,sb,← strB_nil,rcount_l0 _ (((cls (blen n):Nat):Int),((wid (cls (blen n)):Nat):Int)) (cls (blen n)) rfl (by omega) (cls (blen n)) [] 0 (by omega) (by omega) (by simp;omega),sb,List.nil_append,cnt2];dsimp only;rw[e0];by_cases h6:cls (blen n)<6
 ·rw[if_pos (by simp;omega),chkB (by rw[Zv       ,Zv       ];simp;omega),sb,rput hw hn,sb,← Z0q        ,chkB (by rw[Zv       ,Zv       ,Z5e   ];simp;omega),← Z0q        ,if_pos h6]
  simp
 ·rw[if_neg (by simp;omega),sb,rput hw hn,sb,chkB (by rw[Zv       ,Zv       ,Z5e   ];simp;omega),← Z0q        ,if_neg h6]
  simp
theorem rbytes_l1 (a:ByteArray) (q:List Int) (i:Nat) (hi:i<1000000000000):∀ (m:Nat) (p k:Int),m≤i % 8→k=((i % 8-m:Nat):Int)→p=((2 ^ (7-i % 8+m):Nat):Int)→Z1k.l1 a (i:Int) q p k=some ((2 ^ (7-i % 8):Nat):Int):=by
 intro m;have ht:Int.tmod (i:Int) 8=((i % 8:Nat):Int):=by rw[Int.tmod_eq_emod_of_nonneg (by omega)];omega
 induction m with
 | zero=>intro p k hm hk hp;rw[Z1k.l1,ht,if_neg (by simp;omega),hp];rfl
 | succ m ih =>
  intro p k hm hk hp;have hpow:2 ^ (7-i % 8+(m+1))=2*2 ^ (7-i % 8+m):=by rw[← Nat.add_assoc,Nat.pow_succ];omega
  have hle:2 ^ (7-i % 8+m)≤2 ^ 7:=Nat.pow_le_pow_right (by omega) (by omega);have hd:Int.tdiv p 2=((2 ^ (7-i % 8+m):Nat):Int):=by rw[hp,hpow,Int.tdiv_eq_ediv_of_nonneg (by omega)];omega
  rw[Z1k.l1,ht,if_pos (by simp;omega),hd,Z8 (by omega) (by omega),Z8 (by omega) (by omega)];exact ih _ _ (by omega) (by omega) rfl
theorem addBit_eq {b:Int} (hb:Byte b) {f:Nat} (hf:f<8) (h:(Z69 b).drop (7-f)=List.replicate (f+1) false):u8.wrap (b+u8.wrap ((2 ^ f:Nat):Int))=Zbo b f:=by
 have:=addBit_all ⟨b.toNat,by have:=hb.1;have:=hb.2;omega⟩ ⟨f,hf⟩;simp only[Int.toNat_of_nonneg hb.1] at this;rw[← this h]
 norm_cast
theorem laid_tail0 {b:List Int} {x:Int} {f:Nat} {s:List Bool} (h:Laid (b++[x]) f (s++[false])):Byte x∧(Z69 x).drop (7-f)=List.replicate (f+1) false∧b.length=s.length / 8:=by
 have hl:=h.len;have hf:=h.lt;simp only[List.length_append,List.length_singleton] at hl;have hb:=h.bits;rw[Z65,List.append_assoc,List.singleton_append,← List.replicate_succ,show Z12 [x]=Z69 x by simp[Z12]] at hb;have hbl:=Z2j b;have e1:Z69 x=s.drop (8*b.length)++List.replicate (f+1) false:=by
  have:=congrArg (List.drop (8*b.length)) hb;rw[List.drop_append_of_le_length (by omega),List.drop_of_length_le (by omega),List.nil_append,List.drop_append_of_le_length (by omega)] at this;exact this
 have hd:(s.drop (8*b.length)).length=7-f:=by rw[List.length_drop];omega
 exact⟨h.byte x (by simp),by rw[e1,← hd,List.drop_left],by omega⟩
theorem rbytes_l0 (s:List Bool) (hl:s.length<900000000000):∀ (suf pre:List Bool) (b:List Int) (f:Nat) (i:Int),s=pre++suf→i=(pre.length:Int)→Laid b f pre →
  ∃ (b':List Int) (f':Nat),Z1k.l0 (strB s) b i=some b'∧Laid b' f' s:=by
 intro suf
 induction suf with
 | nil =>
  intro pre b f i h1 hi h;rw[List.append_nil] at h1;subst h1;rw[Z1k.l0,if_neg (by rw[Zv];simp[hi])];exact⟨b,f,rfl,h⟩
 | cons x suf ih =>
  intro pre b f i h1 hi h;have hlen:s.length=pre.length+(suf.length+1):=by rw[h1];simp
  have ht:Int.tmod i 8=((pre.length % 8:Nat):Int):=by rw[hi,Int.tmod_eq_emod_of_nonneg (by omega)];omega
  have htd:Int.tdiv i 8=((pre.length / 8:Nat):Int):=by rw[hi,Int.tdiv_eq_ediv_of_nonneg (by omega)];omega
  have hbl:=h.len;have hlt:=h.lt;have hx:s[pre.length]? = some x:=by rw[h1];simp
  obtain⟨b0,y,f0,e,h0⟩:∃ (b0:List Int) (y:Int) (f0:Nat),((if(Int.tmod i (8:Int)==(0:Int))=true then((chk ((b.length+[0].length)*1≤140737488355328))>>=fun _=>some (b++[0])) else(some b)):Option (List Int))=some (b0++[y])∧Laid (b0++[y]) f0 (pre++[false]):=by
   by_cases q:f=0
   ·subst q
    rw[ht,if_pos (by simp;omega),chkB (by simp;omega)];exact⟨b,0,7,rfl,h.new0⟩
   ·rw[ht,if_neg (by simp;omega)]
    obtain⟨f0,rfl⟩:∃ f0,f=f0+1:=⟨f-1,by omega⟩
    have h':=h.old0;rcases List.eq_nil_or_concat b with rfl | ⟨b0,y,rfl⟩
    ·simp at hbl
    ·rw[List.concat_eq_append] at *
     exact⟨b0,y,f0,rfl,h'⟩
  have hl0:=h0.len;have hf0:=h0.lt;simp only[List.length_append,List.length_singleton] at hl0;obtain⟨g1,g2,g3⟩:=laid_tail0 h0;rw[Z1k.l0,if_pos (by rw[Zv];simp;omega),e,sb,chkB (by rw[Zv];omega),hi,strB_bt hx,Z8 (n:=(pre.length:Int)+1) (by omega) (by omega)];have e1:s=(pre++[x])++suf:=by simp[h1]
  cases x with
  | false =>
   rw[if_neg (by simp),sb];exact ih (pre++[false]) _ f0 _ e1 (by simp) h0
  | true =>
   rw[hi] at htd;rw[if_pos rfl,rbytes_l1 (strB s) _ pre.length (by omega) (pre.length % 8) 128 0 (by omega) (by omega) (by rw[show 7-pre.length % 8+pre.length % 8=7 by omega];rfl),sb,htd,Z8 (n:=((pre.length / 8:Nat):Int)) (by omega) (by omega),
    Z06 (pre:=b0) (suf:=[]) (x:=y) rfl (by omega),sb,sb,show 7-pre.length % 8=f0 by omega,addBit_eq g1 hf0 g2]
   have e2:(b0++[y]).set (Int.toNat ((pre.length / 8:Nat):Int)) (Zbo y f0)=b0++[Zbo y f0]:=by
    rw[Int.toNat_natCast,← g3];simp
   rw[e2];exact ih (pre++[true]) _ f0 _ e1 (by simp) h0.set1
theorem rbytes (s:List Bool) (hl:s.length<900000000000):∃ (b:List Int) (f:Nat),Z1k.f (strB s)=some b∧Laid b f s:=by
 unfold Z1k.f;obtain⟨b,f,e,h⟩:=rbytes_l0 s hl s [] [] 0 0 rfl rfl Laid.nil;rw[e,sb];exact⟨b,f,rfl,h⟩
theorem rtext_l0 (l:List Int) (hl:l.length<10000000) (hb:∀ x∈l,Byte x):∀ (suf pre:List Int) (i:Int),l=pre++suf→i=(pre.length:Int)→Z3x.l0 l (strB (Z12 pre)) i=some (strB (Z12 l)):=by
 intro suf
 induction suf with
 | nil=>intro pre i h1 hi;rw[Z3x.l0,if_neg (by rw[h1];simp[hi]),h1,List.append_nil]
 | cons x suf ih =>
  intro pre i h1 hi;have hlen:l.length=pre.length+(suf.length+1):=by rw[h1];simp
  have hx:=hb x (by rw[h1];simp);obtain⟨n,rfl⟩:=Int.eq_ofNat_of_zero_le hx.1;have hn:=hx.2;have hpl:=Z2j pre;rw[Z3x.l0,if_pos (by simp;omega),Z06 h1 hi,sb,Z2l (by omega) (by omega),show(8:Int)=((8:Nat):Int) from rfl,rput (by omega) (by omega),sb,chkB (by rw[Zv,Zv,Z5e];omega),Z8 (by omega) (by omega),← Z0q];have:Z12 pre++nb n 8=Z12 (pre++[(n:Int)]):=by rw[Z65,show Z12 [(n:Int)]=Z69 n by simp[Z12],bits8_nb];simp
  rw[this];exact ih (pre++[(n:Int)]) (i+1) (by simp[h1]) (by simp;omega)
theorem rtext (l:List Int) (hl:l.length<10000000) (hb:∀ x∈l,Byte x):Z3x.f l=some (strB (Z12 l)):=by
 unfold Z3x.f;rw[← strB_nil,show([]:List Bool)=Z12 [] from rfl,rtext_l0 l hl hb l [] 0 rfl rfl,sb]
theorem Zfa:∀ (l:List Int) (q r:Nat),r<8→(Z12 l)[8*q+r]? = (l[q]?).bind fun x=>(Z69 x)[r]?
 | [],q,r,h=>by simp[Z12]
 | x::l,0,r,h=>by
  rw[Z8t,List.getElem?_append_left (by rw[Z8a];omega)];simp
 | x::l,q+1,r,h=>by
  rw[Z8t,List.getElem?_append_right (by rw[Z8a];omega),Z8a,show 8*(q+1)+r-8=8*q+r by omega,Zfa l q r h];simp
structure Src (b:List Int):Prop where
 byte:∀ x∈b,Byte x
 len:b.length<100000000000
variable {b:List Int}
theorem rbit_ok (hb:Src b) {a:Nat} {x:Bool} (h:(Z12 b)[a]? = some x):Z08.f b (a:Int) 0=some (x,((a+1:Nat):Int),0):=by
 have hl:=hb.len;have ha:a<8*b.length:=by rw[← Z2j];exact(List.getElem?_eq_some_iff.1 h).1
 unfold Z08.f;have htm:Int.tmod (a:Int) 8=((a % 8:Nat):Int):=by rw[Int.tmod_eq_emod_of_nonneg (by omega)];omega
 have htd:Int.tdiv (a:Int) 8=((a / 8:Nat):Int):=by rw[Int.tdiv_eq_ediv_of_nonneg (by omega)];omega
 have hq:a / 8<b.length:=by omega
 have hx:=Zfa b (a / 8) (a % 8) (by omega);rw[show 8*(a / 8)+a % 8=a by omega,h,List.getElem?_eq_getElem hq,Option.bind_some] at hx;have hy:=hb.byte _ (List.getElem_mem hq);have hg:=getBit_eq hy (f:=7-a % 8) (by omega);rw[show 7-(7-a % 8)=a % 8 by omega,← hx] at hg;have hg':=Option.some.inj hg;rw[if_neg (by simp),Z8 (by omega) (by omega),sb,if_neg (by simp;omega),htd,Z8 (n:=((a / 8:Nat):Int)) (by omega) (by omega),Z4j rfl (List.getElem?_eq_getElem hq),sb,htm,Z2l (n:=((a % 8:Nat):Int)) (by omega) (by omega),
  Z2l (n:=(7:Int)-((a % 8:Nat):Int)) (by omega) (by omega),chkB (by omega),show Int.toNat ((7:Int)-((a % 8:Nat):Int))=7-a % 8 by omega,Z8 (n:=(a:Int)+1) (by omega) (by omega)]
 rw[getBit] at hg';rw[hg'];rfl
theorem rbit_end (hb:Src b) {a:Nat} (h:8*b.length≤a):Z08.f b (a:Int) 0=some (false,(a:Int),7):=by
 have hl:=hb.len;unfold Z08.f Zn.f;rw[if_neg (by simp),Z8 (by omega) (by omega),sb,if_pos (by simp;omega),if_pos (by simp),sb,sb]
theorem rbit_bad {a e:Int} (h:e≠0):Z08.f b a e=some (false,a,e):=by
 unfold Z08.f Zn.f;rw[if_pos (by simpa using h),sb,if_pos rfl,if_neg (by simpa using h),sb,sb]
theorem rfail0 {a e:Int}:Zn.f b a 0 e=some e:=by unfold Zn.f;rw[if_pos (by simp),sb]
theorem rfail1 {a x e:Int} (h:x≠0):Zn.f b a x e=some x:=by unfold Zn.f;rw[if_neg (by simpa using h),sb]
theorem clamp {k:Nat} (hk:k≤64):(if(if(64:Int)<(k:Int) then(64:Int) else(k:Int))>(0:Int) then(if(64:Int)<(k:Int) then(64:Int) else(k:Int)) else(0:Int))=(k:Int):=by
 by_cases q:(64:Int)<(k:Int)
 ·omega
 ·rw[if_neg q];by_cases q2:(k:Int)>0
  ·rw[if_pos q2]
  ·rw[if_neg q2];omega
theorem Zez (k:Nat) (hk:k≤64) {a e:Int} (he:e≠0):∀ (m:Nat) (n i:Int),i=((k-m:Nat):Int)→m≤k→∃ n',Zk.l0 b (k:Int) a e n i=some (a,e,n'):=by
 intro m
 induction m with
 | zero=>intro n i hi hm;rw[Zk.l0,clamp hk,if_neg (by simp;omega)];exact⟨n,rfl⟩
 | succ m ih =>
  intro n i hi hm;rw[Zk.l0,clamp hk,if_pos (by simp;omega),rbit_bad he,sb,if_neg (by simp),sb,Z8 (by omega) (by omega)];exact ih _ _ (by omega) (by omega)
theorem get_bad {k:Nat} (hk:k≤64) {a e:Int} (he:e≠0):Zk.f b a e (k:Int)=some (0,a,e):=by
 unfold Zk.f;obtain⟨n,h⟩:=Zez (b:=b) k hk he k 0 0 (by omega) (by omega) (a:=a);rw[h,sb];dsimp only;rw[if_pos (by simpa using he)]
theorem get_l0 (hb:Src b) (k:Nat) (hk:k≤64):∀ (m:Nat) (s:List Bool) (a:Nat) (i:Int),i=((k-m:Nat):Int)→m≤k→s.length=k-m→a≤8*b.length →
  (a+m≤8*b.length∧Zk.l0 b (k:Int) (a:Int) 0 ((val s:Nat):Int) i=some (((a+m:Nat):Int),0,((val (s++((Z12 b).drop a).take m):Nat):Int))) ∨
  (8*b.length<a+m∧∃ n',Zk.l0 b (k:Int) (a:Int) 0 ((val s:Nat):Int) i=some (((8*b.length:Nat):Int),7,n')):=by
 intro m
 induction m with
 | zero =>
  intro s a i hi hm hs ha;rw[Zk.l0,clamp hk,if_neg (by simp;omega)];exact .inl ⟨by omega,by simp⟩
 | succ m ih =>
  intro s a i hi hm hs ha;rw[Zk.l0,clamp hk,if_pos (by simp;omega)];by_cases h:a<8*b.length
  ·have hlt:a<(Z12    b).length:=by rw[Z2j       ];exact h
   rw[rbit_ok hb (List.getElem?_eq_getElem hlt),sb,Z8 (by omega) (by omega)];have hv:=val_lt s;have hp:2 ^ s.length≤2 ^ 63:=Nat.pow_le_pow_right (by omega) (by omega);have e1:((if(Z12 b)[a]=true then(some (u64.wrap (((BitVec.toNat (BitVec.ofInt 64 (u64.wrap (((val s:Nat):Int)*2)) ||| BitVec.ofInt 64 (1)):Nat):Int)))) else(some (u64.wrap (((val s:Nat):Int)*2)))):Option Int)=some ((val (s++[(Z12 b)[a]]):Nat):Int):=by
    rw[Zcs];cases (Z12 b)[a] with
    | true=>rw[if_pos rfl,or_one (by omega) (by omega)];congr 1
    | false=>rw[if_neg (by simp),Z2l (by omega) (by omega)];congr 1;simp;omega
   dsimp only;rw[e1,sb];have e2:s++((Z12 b).drop a).take (m+1)=(s++[(Z12 b)[a]])++((Z12 b).drop (a+1)).take m:=by
    rw[List.drop_eq_getElem_cons hlt,List.take_succ_cons];simp
   rcases ih (s++[(Z12 b)[a]]) (a+1) (i+1) (by omega) (by omega) (by simp;omega) (by omega) with ⟨h1,h2⟩ | ⟨h1,n',h2⟩
   ·exact .inl ⟨by omega,by rw[h2,e2];congr 2;omega⟩
   ·exact .inr ⟨by omega,n',h2⟩
  ·rw[rbit_end hb (by omega),sb,if_neg (by simp),sb,Z8     (by omega) (by omega)]
   obtain⟨n',h2⟩:=Zez (b:=b) k hk (a:=(a:Int)) (e:=7) (by omega) m (u64.wrap (((val s:Nat):Int)*2)) (i+1) (by omega) (by omega);exact .inr ⟨by omega,n',by rw[show a=8*b.length by omega] at h2 ⊢;exact h2⟩
theorem Zd2 (hb:Src b) {k:Nat} (hk:k≤64) {a:Nat} (ha:a≤8*b.length) :
  (a+k≤8*b.length∧Zk.f b (a:Int) 0 (k:Int)=some (((val (((Z12 b).drop a).take k):Nat):Int),((a+k:Nat):Int),0)) ∨
  (8*b.length<a+k∧Zk.f b (a:Int) 0 (k:Int)=some (0,((8*b.length:Nat):Int),7)):=by
 unfold Zk.f;rcases get_l0 hb k hk k [] a 0 (by omega) (by omega) (by simp) ha with ⟨h1,h2⟩ | ⟨h1,n',h2⟩
 ·left
  refine⟨h1,?_⟩;rw[show Zk.l0 b (k:Int) (a:Int) 0 0 0=_ from h2,sb];dsimp only;rw[if_neg (by simp),List.nil_append]
 ·right
  refine⟨h1,?_⟩;rw[show Zk.l0 b (k:Int) (a:Int) 0 0 0=_ from h2,sb];dsimp only;rw[if_pos (by simp)]
theorem six:i64.wrap (((cl.length:Nat):Int)-1)=6:=by decide
theorem ones_l0 (hb:Src b):∀ (m i a:Nat),i+m=6→a≤8*b.length→∃ (c a1:Nat) (e:Int),Zm.l0 b cl (a:Int) 0 (i:Int)=some ((a1:Int),e,(c:Int))∧i≤c∧c≤6∧a1≤8*b.length ∧
  ((e=0∧(Z12 b).drop a=List.replicate (c-i) true++((if c<6 then [false] else [])++(Z12 b).drop a1))∨e≠0):=by
 intro m
 induction m with
 | zero =>
  intro i a hi ha;rw[Zm.l0,six,if_neg (by simp;omega),sb];dsimp only;rw[if_neg (by simp)];exact⟨i,a,0,rfl,by omega,by omega,ha,.inl ⟨rfl,by rw[if_neg (by omega)];simp⟩⟩
 | succ m ih =>
  intro i a hi ha;rw[Zm.l0,six,if_pos (by simp;omega)];by_cases h:a<8*b.length
  ·have hlt:a<(Z12    b).length:=by rw[Z2j       ];exact h
   rw[rbit_ok hb (List.getElem?_eq_getElem hlt),sb,sb];dsimp only;cases e1:(Z12 b)[a] with
   | true =>
    rw[if_pos rfl,Z8 (by omega) (by omega)];obtain⟨c,a1,e,h1,h2,h3,h4,h5⟩:=ih (i+1) (a+1) (by omega) (by omega);refine⟨c,a1,e,h1,by omega,h3,h4,?_⟩;rcases h5 with ⟨h5,h6⟩ | h5
    ·refine .inl ⟨h5,?_⟩
     rw[List.drop_eq_getElem_cons hlt,e1,h6,show c-i=(c-(i+1))+1 by omega,List.replicate_succ,List.cons_append]
    ·exact .inr h5
   | false =>
    rw[if_neg (by simp)];exact⟨i,a+1,0,rfl,by omega,by omega,by omega,.inl ⟨rfl,by rw[if_pos (by omega),List.drop_eq_getElem_cons hlt,e1];simp⟩⟩
  ·rw[rbit_end hb (by omega),sb,sb]
   dsimp only;rw[if_neg (by simp)];exact⟨i,a,7,rfl,by omega,by omega,ha,.inr (by omega)⟩
theorem ones_bad {a e:Int} (he:e≠0):Zm.l0 b cl a e 0=some (a,e,0):=by
 rw[Zm.l0,six,if_pos (by simp),rbit_bad he,sb,sb];dsimp only;rw[if_neg (by simp)]
theorem count_bad {a e:Int} (he:e≠0):Zm.f b a e=some (0,a,e):=by
 unfold Zm.f Z2x.f;rw[sb,ones_bad he,sb];dsimp only;rw[show at? cl 0=some ((0:Nat):Int) from rfl,sb,get_bad (by omega) he,sb,if_neg (by simp),sb,if_neg (by simp),sb,if_pos (by simpa using he)]
theorem wid_mono {i j:Nat} (h:i≤j):wid i≤wid j:=by
 rcases Nat.lt_or_ge j 6 with hj | hj
 ·have hall:∀ j:Fin 6,∀ i:Fin 6,i.1≤j.1→wid i.1≤wid j.1:=by decide
  exact hall ⟨j,hj⟩ ⟨i,by omega⟩ h
 ·obtain⟨k,rfl⟩:∃ k,j=k+6:=⟨j-6,by omega⟩
  exact Zd6 i
theorem Ze4 (hb:Src b) {a:Nat} (ha:a≤8*b.length):∃ (n a1:Nat) (e:Int),Zm.f b (a:Int) 0=some ((n:Int),(a1:Int),e)∧a1≤8*b.length∧n<18446744073709551616 ∧
  ((e=0∧(Z12 b).drop a=cnt2 n++(Z12 b).drop a1)∨(e≠0∧n=0)):=by
 unfold Zm.f Z2x.f;obtain⟨c,p,e,h1,h2,h3,h4,h5⟩:=ones_l0 hb 6 0 a rfl ha;rw[sb,show Zm.l0 b cl (a:Int) 0 0=_ from h1,sb];dsimp only;rw[Z4j rfl (Z9d (by omega)),sb];have hw:=Zd6 c;by_cases he:e=0
 case neg =>
  have hfin:∀ x:Bool,(((if x=true then((Zn.f b (p:Int) e 6)>>=fun t3827=>some t3827) else(some e)):Option (Int))>>=fun x3829=>if(x3829 != (0:Int))=true then(some ((0:Int),(p:Int),x3829)) else(some ((0:Int),(p:Int),x3829)))=some (((0:Nat):Int),(p:Int),e):=fun x=>by
   have:((if x=true then((Zn.f b (p:Int) e 6)>>=fun t3827=>some t3827) else(some e)):Option (Int))=some e:=by
    cases x
    ·rw[if_neg (by simp)]
    ·rw[if_pos rfl,rfail1 he,sb]
   rw[this,sb,if_pos (by simpa using he)];rfl
  refine⟨0,p,e,?_,h4,by omega,.inr ⟨he,rfl⟩⟩;rw[get_bad hw he,sb];dsimp only;by_cases h0:c=0
  ·rw[if_neg (by simp[h0]),sb];exact hfin _
  ·rw[if_pos (by simp;omega),show Z1w.f 0=_ from long_eq (n:=0) (by omega),sb,Z8 (by omega) (by omega),Z4j (k:=c-1) (by omega) (Z9d (by omega)),sb,sb];exact hfin _
 subst he;rcases h5 with ⟨_,h5⟩ | h5
 case inr=>exact absurd rfl h5
 rcases Zd2 hb hw h4 with ⟨g1,g2⟩ | ⟨g1,g2⟩
 case inr =>
  rw[g2,sb];dsimp only;refine⟨0,8*b.length,7,?_,by omega,by omega,.inr ⟨by omega,rfl⟩⟩;have hfin:∀ x:Bool,(((if x=true then((Zn.f b ((8*b.length:Nat):Int) 7 6)>>=fun t3827=>some t3827) else(some 7)):Option (Int))>>=fun x3829=>if(x3829 != (0:Int))=true then(some ((0:Int),((8*b.length:Nat):Int),x3829)) else(some ((0:Int),((8*b.length:Nat):Int),x3829)))=some (((0:Nat):Int),((8*b.length:Nat):Int),7):=fun x=>by
   have:((if x=true then((Zn.f b ((8*b.length:Nat):Int) 7 6)>>=fun t3827=>some t3827) else(some 7)):Option (Int))=some 7:=by
    cases x
    ·rw[if_neg (by simp)]
    ·rw[if_pos rfl,rfail1 (by omega),sb]
   rw[this,sb,if_pos (by simp)];rfl
  by_cases h0:c=0
  ·rw[if_neg (by simp[h0]),sb];exact hfin _
  ·rw[if_pos (by simp;omega),show Z1w.f 0=_ from long_eq (n:=0) (by omega),sb,Z8 (by omega) (by omega),Z4j (k:=c-1) (by omega) (Z9d (by omega)),sb,sb];exact hfin _
 rw[g2,sb];dsimp only;generalize hs:((Z12 b).drop p).take (wid c)=s;have hsl:s.length=wid c:=by rw[← hs,List.length_take,List.length_drop,Z2j];omega
 have hv:=val_lt s;have hv2:2 ^ s.length≤2 ^ 64:=Nat.pow_le_pow_right (by omega) (by omega);have hn:val s<18446744073709551616:=by omega
 have hbl:blen (val s)≤wid c:=by rw[← hsl];exact blen_le.1 hv
 have hdrop:(Z12 b).drop p=s++(Z12 b).drop (p+wid c):=by rw[← hs,← List.drop_drop,List.take_append_drop]
 have good:(∀ j,j<c→wid j<blen (val s))→(Z12 b).drop a=cnt2 (val s)++(Z12 b).drop (p+wid c):=fun hlt=>by
  have hcls:=cls_of hbl hlt (by omega);rw[h5,hdrop,cnt2,hcls,← hsl,nb_val,Nat.sub_zero];simp
 by_cases h0:c=0
 ·rw[if_neg (by simp[h0]),sb,if_neg (by simp),sb,if_neg (by simp)]
  exact⟨val s,p+wid c,0,rfl,by omega,hn,.inl ⟨rfl,good (fun j hj=>by omega)⟩⟩
 ·rw[if_pos (by simp;omega),long_eq hn,sb,Z8     (by omega) (by omega),Z4j    (k:=c-1) (by omega) (Z9d    (by omega)),sb,sb]
  by_cases hl:blen (val s)≤wid (c-1)
  ·rw[if_pos (by simp;omega),rfail0,sb,sb,if_pos (by simp)]
   exact⟨0,p+wid c,6,rfl,by omega,by omega,.inr ⟨by omega,rfl⟩⟩
  ·rw[if_neg (by simp;omega),sb,if_neg (by simp)]
   refine⟨val s,p+wid c,0,rfl,by omega,hn,.inl ⟨rfl,good (fun j hj => ?_)⟩⟩;have:=wid_mono (i:=j) (j:=c-1) (by omega);omega
theorem Zas {a e m:Int} (he:e≠0):Z7.f b a e m=some (0,a,e):=by
 unfold Z7.f;rw[count_bad he,sb];have:((if(decide (m<(0:Int)))=true then(some true) else(some (decide ((0:Int)>(u64.wrap (m)))))):Option (Bool))=some (decide (m<0)):=by
  by_cases h:m<0
  ·simp[h]
  ·rw[if_neg (by simpa using h)]
   have:=(Z7m m).1;simp[h];omega
 rw[this,sb];by_cases h:m<0
 ·rw[if_pos (by simpa using h),rfail1 he,sb]
 ·rw[if_neg (by simpa using h),show i64.wrap 0=0 by decide]
theorem Zdb (hb:Src b) {m:Nat} (hm:m<9223372036854775808) {a:Nat} (ha:a≤8*b.length):∃ (n a1:Nat) (e:Int),Z7.f b (a:Int) 0 (m:Int)=some ((n:Int),(a1:Int),e)∧a1≤8*b.length∧n≤m ∧
  ((e=0∧(Z12 b).drop a=cnt2 n++(Z12 b).drop a1)∨(e≠0∧n=0)):=by
 unfold Z7.f;obtain⟨n,a1,e,h1,h2,h3,h4⟩:=Ze4 hb ha;rw[h1,sb,if_neg (by simp),Z2l (by omega) (by omega),sb];dsimp only;by_cases h:n≤m
 ·rw[if_neg (by simp;omega),Z8     (by omega) (by omega)]
  exact⟨n,a1,e,rfl,h2,h,h4⟩
 ·rw[if_pos (by simp;omega)]
  rcases h4 with ⟨rfl,_⟩ | ⟨_,h5⟩
  ·rw[rfail0,sb]
   exact⟨0,a1,9,rfl,h2,by omega,.inr ⟨by omega,rfl⟩⟩
  ·omega
end Go.Proofs.YtpoihfcehejgfaaGreat.PvGS2
namespace Go.Proofs.YtpoihfcehejgfaaGreat.PvGS2
open Go Go.Pv Go.Pv.GS Go.IntKind
def zig (a:Int):Nat:=if 0≤a then(2*a).toNat else(-2*a-1).toNat
theorem zig_lt {a:Int} (h:I64 a):zig a<18446744073709551616:=by unfold zig;split<;>omega
def intB (a:Int):List Bool:=cnt2 (zig a)
theorem Z54 (a:Int):(intB a).length≤71:=Z0t _
theorem Z4v {n:Nat} (h:n<18446744073709551616):(BitVec.ofInt 64 (n:Int)).toNat=n:=by
 rw[BitVec.ofInt_natCast,BitVec.toNat_ofNat];exact Nat.mod_eq_of_lt h
theorem zig_val {a:Int} (h:I64 a):u64.wrap (((BitVec.toNat (BitVec.ofInt 64 (u64.wrap (i64.wrap (a*2))) ^^^ BitVec.ofInt 64 (u64.wrap (Int.fdiv a 9223372036854775808))):Nat):Int))=(zig a:Int):=by
 have e1:u64.wrap (i64.wrap (a*2))=u64.wrap (a*2):=by simp only[Z9j,Zam];omega
 rw[e1];by_cases h0:0≤a
 ·have e2:Int.fdiv a 9223372036854775808=0:=by rw[Int.fdiv_eq_ediv_of_nonneg _ (by omega)];omega
  have e3:u64.wrap (a*2)=((2*a).toNat:Int):=by rw[Z2l (by omega) (by omega)];omega
  have e4:BitVec.ofInt 64 (u64.wrap 0)=0#64:=by decide
  rw[e2,e4,BitVec.xor_zero,e3,Z4v (by omega),Z2l (by omega) (by omega),zig,if_pos h0]
 ·have e2:Int.fdiv a 9223372036854775808 = -1:=by rw[Int.fdiv_eq_ediv_of_nonneg _ (by omega)];omega
  have e3:u64.wrap (a*2)=((18446744073709551616+2*a).toNat:Int):=by rw[Z9j];omega
  have e4:BitVec.ofInt 64 (u64.wrap (-1))=BitVec.allOnes 64:=by decide
  rw[e2,e4,BitVec.xor_allOnes,BitVec.toNat_not,e3,Z4v (by omega),zig,if_neg h0,Z2l (by omega) (by omega)];omega
theorem rzig {a:Int} (h:I64 a):Z86.f a=some (zig a:Int):=by
 unfold Z86.f zig;by_cases h0:0≤a
 ·rw[if_pos (by simpa using h0),if_pos h0]
  congr 1;simp only[Z9j];omega
 ·rw[if_neg (by simpa using h0),if_neg h0]
  congr 1;simp only[Z9j,Zam];omega
theorem rint {a:Int} (h:I64 a):Z4a.f a=some (strB (intB a)):=by
 unfold Z4a.f;rw[rzig h,sb,Z7p (zig_lt h),sb];rfl
theorem wint {b:List Int} {f:Nat} {s:List Bool} (h:Laid b f s) (hl:s.length<800000000000) {a:Int} (ha:I64 a) :
  ∃ (b':List Int) (f':Nat),Z0n.f b (f:Int) a=some (b',(f':Int))∧Laid b' f' (s++intB a):=by
 unfold Z0n.f Z9b.f;rw[sb,zig_val ha];obtain⟨b',f',e,h'⟩:=Z6a h hl (n:=(zig a:Int)) (by omega) (by have:=zig_lt ha;omega);rw[e,sb];exact⟨b',f',rfl,by rw[Int.toNat_natCast] at h';exact h'⟩
def zag (n:Nat):Int:=if n % 2=0 then((n / 2:Nat):Int) else -((n / 2:Nat):Int)-1
theorem zag_i64 {n:Nat} (h:n<18446744073709551616):I64 (zag n):=by unfold zag;split<;>omega
theorem and_one (n:Nat) (h:n<18446744073709551616):(BitVec.toNat (BitVec.ofInt 64 (n:Int) &&& BitVec.ofInt 64 1):Nat)=n % 2:=by
 rw[BitVec.toNat_and,Z4v h,show(BitVec.ofInt 64 1).toNat=1 by decide,Nat.and_one_is_mod]
theorem zag_val {n:Nat} (h:n<18446744073709551616):i64.wrap (((BitVec.toNat (BitVec.ofInt 64 (i64.wrap (Int.fdiv (n:Int) 2)) ^^^ BitVec.ofInt 64 (i64.wrap (0-(i64.wrap (u64.wrap (((BitVec.toNat (BitVec.ofInt 64 (n:Int) &&& BitVec.ofInt 64 (1:Int)):Nat):Int))))))):Nat):Int))=zag n:=by
 have e0:Int.fdiv (n:Int) 2=((n / 2:Nat):Int):=by rw[Int.fdiv_eq_ediv_of_nonneg _ (by omega)];omega
 rw[and_one n h,e0,Z8 (n:=((n / 2:Nat):Int)) (by omega) (by omega)];rcases Nat.mod_two_eq_zero_or_one n with h2 | h2
 ·have e4:BitVec.ofInt 64 (i64.wrap (0-(i64.wrap (u64.wrap ((0:Nat):Int)))))=0#64:=by decide
  rw[h2,e4,BitVec.xor_zero,Z4v (by omega),Z8 (by omega) (by omega),zag,if_pos h2]
 ·have e4:BitVec.ofInt 64 (i64.wrap (0-(i64.wrap (u64.wrap ((1:Nat):Int)))))=BitVec.allOnes 64:=by decide
  rw[h2,e4,BitVec.xor_allOnes,BitVec.toNat_not,Z4v (by omega),zag,if_neg (by omega),Zam];omega
variable {b:List Int}
theorem count_tot (hb:Src b) {a:Nat} (ha:a≤8*b.length) (e:Int):∃ (n a1:Nat) (e1:Int),Zm.f b (a:Int) e=some ((n:Int),(a1:Int),e1)∧a1≤8*b.length∧n<18446744073709551616:=by
 by_cases he:e=0
 ·subst he
  obtain⟨n,a1,e,h1,h2,h3,_⟩:=Ze4 hb ha;exact⟨n,a1,e,h1,h2,h3⟩
 ·exact⟨0,a,e,count_bad he,ha,by omega⟩
theorem Zdt (hb:Src b) {a:Nat} (ha:a≤8*b.length) (e:Int):∃ (x:Int) (a1:Nat) (e1:Int),Z0c.f b (a:Int) e=some (x,(a1:Int),e1)∧a1≤8*b.length∧I64 x:=by
 obtain⟨n,a1,e1,h1,h2,h3⟩:=count_tot hb ha e;unfold Z0c.f Z9c.f;rw[h1,sb,sb];dsimp only;rw[zag_val h3];exact⟨_,_,_,rfl,h2,zag_i64 h3⟩
theorem Z81 (hb:Src b) {a:Nat} (ha:a≤8*b.length) (e:Int) {m:Nat} (hm:m<9223372036854775808):∃ (n a1:Nat) (e1:Int),Z7.f b (a:Int) e (m:Int)=some ((n:Int),(a1:Int),e1)∧a1≤8*b.length∧n≤m:=by
 by_cases he:e=0
 ·subst he
  obtain⟨n,a1,e,h1,h2,h3,_⟩:=Zdb hb hm ha;exact⟨n,a1,e,h1,h2,h3⟩
 ·exact⟨0,a,e,Zas he,ha,by omega⟩
end Go.Proofs.YtpoihfcehejgfaaGreat.PvGS2
namespace Go.Proofs.YtpoihfcehejgfaaGreat.PvGS2
open Go Go.Pv Go.Pv.GS Go.IntKind
def spB:Bool→List Z2u→List Bool
 | _,[]=>[]
 | true,s::r=>cnt2 (s.f1-1).toNat++spB false r
 | false,s::r=>cnt2 (s.f0-1).toNat++(cnt2 (s.f1-1).toNat++spB false r)
def lyR (f:Int):List Z2u→List Bool
 | []=>[]
 | s::r=>intB f++spB true (s::r)
def lyB (L:Ze):List Bool:=cnt2 L.f1.length++lyR L.f0 L.f1
def RSp:Bool→List Z2u→Prop
 | _,[]=>True
 | true,s::r=>s.f0=0∧1≤s.f1∧s.f1≤512∧RSp false r
 | false,s::r=>1≤s.f0∧s.f0≤524288∧1≤s.f1∧s.f1≤512∧RSp false r
theorem RSp.len {f:Bool} {s:Z2u} {r:List Z2u} (h:RSp f (s::r)):1≤s.f1∧s.f1≤512∧RSp false r:=by
 cases f
 ·exact h.2.2
 ·exact h.2
def Ids (l:List Int):Prop:=Inc l∧∀ i∈l,-262144≤i∧i≤262144
theorem Ids.sm {l:List Int} (h:Ids l):Sm l:=fun i hi=>by have:=h.2 i hi;omega
theorem runs_rsp:∀ (l:List Int) (p n off:Int) (f:Bool),1≤n→n+l.length≤512→Inc (p::l) → -262144≤p→(∀ i∈l,i≤262144)→(f=true→off=0)→(f=false→1≤off∧off≤524288)→RSp f (runs p n off l)
 | [],p,n,off,f,h1,h2,_,_,_,ht,hf=>by
  simp at h2;rw[runs];cases f
  ·exact⟨(hf rfl).1,(hf rfl).2,h1,h2,trivial⟩
  ·exact⟨ht rfl,h1,h2,trivial⟩
 | i::l,p,n,off,f,h1,h2,hi,hp,hu,ht,hf=>by
  simp only[List.length_cons] at h2;have q:=hi.cons;have hpi:=q.1 i (by simp);have hui:=hu i (by simp);rw[runs];by_cases c:p+1=i
  ·rw[if_pos c]
   exact runs_rsp l i (n+1) off f (by omega) (by omega) q.2 (by omega) (fun j hj=>hu j (by simp[hj])) ht hf
  ·rw[if_neg c]
   have r:=runs_rsp l i 1 (i-p-1) false (by omega) (by omega) q.2 (by omega) (fun j hj=>hu j (by simp[hj])) (by simp) (fun _=>by omega);cases f
   ·exact⟨(hf rfl).1,(hf rfl).2,h1,by show n≤_;omega,r⟩
   ·exact⟨ht rfl,h1,by show n≤_;omega,r⟩
theorem lay_rsp {l:List Int} (h:Ids l) (hl:l.length≤512):RSp true (lay l).f1:=by
 cases l with
 | nil=>exact trivial
 | cons i l =>
  simp only[List.length_cons] at hl;exact runs_rsp l i 1 0 true (by omega) (by omega) h.1 (h.2 i (by simp)).1 (fun j hj=>(h.2 j (by simp[hj])).2) (fun _=>rfl) (by simp)
theorem Z5s {l:List Int}:(lay l).f1.length≤l.length:=by
 cases l with
 | nil=>simp[lay]
 | cons i l=>have:=Zcw l i 1 0;simp only[lay,List.length_cons];exact this
theorem lay_f0 {l:List Int} (h:Ids l) : -262144≤(lay l).f0∧(lay l).f0≤262144:=by
 cases l with
 | nil=>simp[lay]
 | cons i l=>exact h.2 i (by simp)
theorem spB_len:∀ (r:List Z2u) (f:Bool),(spB f r).length≤142*r.length
 | [],f=>by cases f<;>simp[spB]
 | s::r,f=>by
  have:=spB_len r false;have:=Z0t (s.f0-1).toNat;have:=Z0t (s.f1-1).toNat;cases f<;>simp only[spB,List.length_append,List.length_cons]<;>omega
theorem Zbr (L:Ze):(lyB L).length≤142+142*L.f1.length:=by
 unfold lyB;have h1:=Z0t L.f1.length;have h2:=Z54 L.f0;have h3:=spB_len L.f1 true;cases e:L.f1 with
 | nil=>rw[e] at h1;simp only[lyR,List.length_append,List.length_nil] at *;omega
 | cons s r=>rw[e] at h1 h3;simp only[lyR,List.length_append] at *;omega
theorem wspan_l0 (L:Ze) (hl:L.f1.length≤1000):∀ (suf pre:List Z2u) (b:List Int) (f:Nat) (s:List Bool) (i:Int),L.f1=pre++suf→i=(pre.length:Int)→RSp (decide (pre=[])) suf→s.length+142*suf.length<700000000000→Laid b f s →
  ∃ (b':List Int) (f':Nat),Z1n.l0 L b (f:Int) i=some (b',(f':Int))∧Laid b' f' (s++spB (decide (pre=[])) suf):=by
 intro suf
 induction suf with
 | nil =>
  intro pre b f s i h1 hi hR hs h;rw[Z1n.l0,if_neg (by rw[h1];simp[hi])];exact⟨b,f,rfl,by cases (decide (pre=[]))<;>simpa[spB] using h⟩
 | cons x suf ih =>
  intro pre b f s i h1 hi hR hs h;have hlen:L.f1.length=pre.length+(suf.length+1):=by rw[h1];simp
  have hx:=hR.len;have hc1:=Z0t (x.f0-1).toNat;have hc2:=Z0t (x.f1-1).toNat;simp only[List.length_cons] at hs;have hne:¬ (pre++[x]=[]):=by simp
  rw[Z1n.l0,if_pos (by simp;omega),Z06 h1 hi,sb,Z8 (n:=x.f1-1) (by omega) (by omega),Z2l (n:=x.f1-1) (by omega) (by omega),Z8 (n:=i+1) (by omega) (by omega)];rcases List.eq_nil_or_concat pre with rfl | ⟨P,p,rfl⟩
  ·rw[if_neg (by simp[hi]),sb]
   dsimp only;obtain⟨b1,f1,e1,h1'⟩:=Z6a h (by omega) (n:=x.f1-1) (by omega) (by omega);rw[e1,sb];obtain⟨b2,f2,e2,h2'⟩:=ih [x] b1 f1 _ (i+1) (by simp[h1]) (by simp[hi]) (by simpa using hx.2.2) (by simp only[List.length_append];omega) h1';exact⟨b2,f2,e2,by simpa[spB] using h2'⟩
  ·simp only[List.concat_eq_append] at *
   have hd:decide (P++[p]=([]:List Z2u))=false:=by simp
   rw[hd] at hR ⊢;obtain⟨q1,q2,_⟩:=hR;rw[if_pos (by simp at hi ⊢;omega),Z8 (n:=x.f0-1) (by omega) (by omega),Z2l (n:=x.f0-1) (by omega) (by omega)];obtain⟨b1,f1,e1,h1'⟩:=Z6a h (by omega) (n:=x.f0-1) (by omega) (by omega);obtain⟨b2,f2,e2,h2'⟩:=Z6a h1' (by simp only[List.length_append];omega) (n:=x.f1-1) (by omega) (by omega);rw[e1,sb,sb];dsimp only;rw[e2,sb];obtain⟨b3,f3,e3,h3'⟩:=ih (P++[p]++[x]) b2 f2 _ (i+1) (by simp[h1]) (by simp at hi ⊢;omega) (by simpa using hx.2.2) (by simp only[List.length_append];omega) h2';exact⟨b3,f3,e3,by simpa[spB] using h3'⟩
theorem wspan (L:Ze) (hl:L.f1.length≤1000) (hR:RSp true L.f1) (hf:I64 L.f0) {b:List Int} {f:Nat} {s:List Bool} (hs:s.length<600000000000) (h:Laid b f s) :
  ∃ (b':List Int) (f':Nat),Z1n.f b (f:Int) L=some (b',(f':Int))∧Laid b' f' (s++lyB L):=by
 unfold Z1n.f;have hc:=Z0t L.f1.length;have hi:=Z54 L.f0;rw[Z2l (by omega) (by omega)];obtain⟨b1,f1,e1,h1⟩:=Z6a h (by omega) (n:=(L.f1.length:Int)) (by omega) (by omega);rw[e1,sb];rw[Int.toNat_natCast] at h1;unfold lyB;cases e:L.f1 with
 | nil=>rw[e] at h1;rw[if_pos (by simp)];exact⟨b1,f1,rfl,by simpa[lyR] using h1⟩
 | cons x r =>
  rw[if_neg (by simp;omega)];obtain⟨b2,f2,e2,h2⟩:=wint h1 (by simp;omega) hf;dsimp only;rw[e2,sb];obtain⟨b3,f3,e3,h3⟩:=wspan_l0 L hl L.f1 [] b2 f2 _ 0 rfl rfl (by simpa using hR) (by simp;omega) h2;dsimp only;rw[e3,sb];refine⟨b3,f3,rfl,?_⟩;rw[e] at h3;simpa[e,lyR] using h3
theorem rspan_l0 (S:List Z2u) (hl:S.length≤1000):∀ (suf pre:List Z2u) (s:List Bool) (i:Int),S=pre++suf→i=(pre.length:Int)→RSp (decide (pre=[])) suf→s.length+142*suf.length<700000000000 →
  Z44.l0 S (strB s) i=some (strB (s++spB (decide (pre=[])) suf)):=by
 intro suf
 induction suf with
 | nil =>
  intro pre s i h1 hi hR hs;rw[Z44.l0,if_neg (by rw[h1];simp[hi])];cases (decide (pre=[]))<;>simp[spB]
 | cons x suf ih =>
  intro pre s i h1 hi hR hs;have hlen:S.length=pre.length+(suf.length+1):=by rw[h1];simp
  have hx:=hR.len;have hc1:=Z0t (x.f0-1).toNat;have hc2:=Z0t (x.f1-1).toNat;simp only[List.length_cons] at hs;have q2:Z00.f (x.f1-1)=some (strB (cnt2 (x.f1-1).toNat)):=by
   have:=Z7p (n:=(x.f1-1).toNat) (by omega)
   rwa [Int.toNat_of_nonneg (by omega)] at this
  rw[Z44.l0,if_pos (by simp;omega),Z06 h1 hi];simp only[sb];rw[Z8 (n:=x.f1-1) (by omega) (by omega),Z2l (n:=x.f1-1) (by omega) (by omega),Z8 (n:=i+1) (by omega) (by omega),q2];simp only[sb];rcases List.eq_nil_or_concat pre with rfl | ⟨P,p,rfl⟩
  ·rw[if_neg (by simp[hi]),sb,chkB (by rw[Zv       ,Zv       ];omega),← Z0q        ,ih [x] _ (i+1) (by simp[h1]) (by simp[hi]) (by simpa using hx.2.2) (by simp only[List.length_append];omega)]
   simp[spB]
  ·simp only[List.concat_eq_append] at *
   have hd:decide (P++[p]=([]:List Z2u))=false:=by simp
   rw[hd] at hR ⊢;obtain⟨q1,q3,_⟩:=hR;have q4:Z00.f (x.f0-1)=some (strB (cnt2 (x.f0-1).toNat)):=by
    have:=Z7p (n:=(x.f0-1).toNat) (by omega)
    rwa [Int.toNat_of_nonneg (by omega)] at this
   rw[if_pos (by simp at hi ⊢;omega),Z8 (n:=x.f0-1) (by omega) (by omega),Z2l (n:=x.f0-1) (by omega) (by omega),q4,sb,chkB (by rw[Zv,Zv];omega),← Z0q,sb,chkB (by rw[Zv,Zv,List.length_append];omega),← Z0q];rw[ih (P++[p]++[x]) _ (i+1) (by simp[h1]) (by simp at hi ⊢;omega) (by simpa using hx.2.2) (by simp only[List.length_append];omega)];simp[spB]
theorem rspan (L:Ze) (hl:L.f1.length≤1000) (hR:RSp true L.f1) (hf:I64 L.f0):Z44.f L.f0 L.f1=some (strB (lyB L)):=by
 unfold Z44.f;have hc:=Z0t L.f1.length;have hi:=Z54 L.f0;rw[Z2l (by omega) (by omega),Z7p (by omega),sb];unfold lyB;cases e:L.f1 with
 | nil=>rw[if_pos (by simp)];simp[lyR]
 | cons x r =>
  rw[if_neg (by simp;omega),rint hf,sb,chkB (by rw[Zv,Zv,← e];omega),← Z0q,← e];rw[rspan_l0 L.f1 hl L.f1 [] _ 0 rfl rfl (by simpa using hR) (by simp;omega),sb,e];simp[lyR]
def more (p:Int):List Int→Nat
 | []=>0
 | i::l=>if p+1=i then more i l+1 else 0
theorem more_le:∀ (l:List Int) (p:Int),more p l≤l.length
 | [],_=>by simp[more]
 | i::l,p=>by rw[more];split;have:=more_le l i;simp;omega;simp
theorem more_take:∀ (l:List Int) (p:Int),l.take (more p l)=seqI (p+1) (more p l)
 | [],_=>by simp[more,seqI]
 | i::l,p=>by
  rw[more];split
  ·rename_i c
   rw[List.take_succ_cons,more_take l i,seqI,c]
  ·simp[seqI]
theorem runs_more:∀ (l:List Int) (p n off:Int),runs p n off l=⟨off,n+more p l⟩::(match l.drop (more p l) with
  | []=>[]
  | j::r=>runs j 1 (j-(p+more p l)-1) r)
 | [],p,n,off=>by simp[runs,more]
 | i::l,p,n,off=>by
  rw[runs,more];by_cases c:p+1=i
  ·rw[if_pos c,if_pos c,runs_more l i (n+1) off,List.drop_succ_cons]
   rw[show n+1+(more i l:Int)=n+((more i l+1:Nat):Int) by omega];congr 1;cases l.drop (more i l) with
   | nil=>rfl
   | cons j r=>simp only;congr 1;omega
  ·rw[if_neg c,if_neg c];simp
theorem rof_l1 (l:List Int) (hl:l.length<1000000) (hm:Sm l) (o:List Z2u):∀ (suf P C:List Int) (x i n:Int),l=P++(x::C)++suf→i=(P.length:Int)→n=(C.length:Int)+1 →
  Z35.l1 l o i n=some (n+more (x+n-1) suf):=by
 intro suf
 induction suf with
 | nil =>
  intro P C x i n h1 hi hn;have hlen:l.length=P.length+(C.length+1):=by rw[h1];simp
  rw[Z35.l1,Z8 (n:=i+n) (by omega) (by omega),if_neg (by simp;omega),sb,if_neg (by simp)];simp[more]
 | cons y suf ih =>
  intro P C x i n h1 hi hn;have hlen:l.length=P.length+(C.length+1+(suf.length+1)):=by rw[h1];simp;omega
  have sx:=hm x (by rw[h1];simp);have h2:l=(P++x::C)++y::suf:=by simp[h1]
  have h3:l=P++x::(C++y::suf):=by simp[h1]
  rw[Z35.l1,Z8 (n:=i+n) (by omega) (by omega),if_pos (by simp;omega),Z06 h2 (by simp;omega),sb,Z06 h3 hi,sb,sb,Z8 (n:=x+n) (by omega) (by omega),more];by_cases c:x+n-1+1=y
  ·rw[if_pos (by simp;omega),if_pos c,Z8     (n:=n+1) (by omega) (by omega),ih P (C++[y]) x i (n+1) (by simp[h1]) hi (by simp;omega)]
   rw[show x+(n+1)-1=y by omega];congr 1;omega
  ·rw[if_neg (by simp;omega),if_neg c];simp
theorem rof_l0 (l:List Int) (hl:l.length<1000000) (hm:Sm l):∀ (k:Nat) (suf P:List Int) (x:Int) (O:List Z2u) (i:Int),suf.length≤k→l=P++x::suf→i=(P.length:Int)→O.length≤P.length →
  Z35.l0 l O i=some (O++runs x 1 (match P.getLast? with
   | none=>0
   | some q=>x-q-1) suf):=by
 intro k
 induction k with
 | zero =>
  intro suf P x O i hk h1 hi hO;have hs:suf=[]:=List.length_eq_zero_iff.1 (by omega);subst hs;have hlen:l.length=P.length+1:=by rw[h1];simp
  have hoff:((if(decide (i>(0:Int)))=true then((at? l i)>>=fun b5058=>(at? l (i64.wrap (i-(1:Int))))>>=fun b5061=>some (i64.wrap ((i64.wrap (b5058-b5061))-(1:Int)))) else(some 0)):Option (Int))=some (match P.getLast? with | none=>0 | some q=>x-q-1):=by
   rcases List.eq_nil_or_concat P with rfl | ⟨Q,q,rfl⟩
   ·rw[if_neg (by simp[hi])];rfl
   ·simp only[List.concat_eq_append] at *
    have sx:=hm x (by rw[h1];simp);have sq:=hm q (by rw[h1];simp);rw[if_pos (by simp at hi ⊢;omega),Z06 h1 hi,sb,Z8 (n:=i-1) (by simp at hi;omega) (by simp at hi hlen;omega),Z06 (pre:=Q) (x:=q) (suf:=[x]) (by simp[h1]) (by simp at hi;omega),sb,Z8 (n:=x-q) (by omega) (by omega),Z8 (n:=x-q-1) (by omega) (by omega)];simp
  rw[Z35.l0,if_pos (by simp;omega),rof_l1 l hl hm O [] P [] x i 1 (by simp[h1]) hi (by simp),sb,hoff,sb,chkB (by simp;omega),Z8 (by simp[more];omega) (by simp[more];omega),Z35.l0,if_neg (by simp[more];omega)];simp[runs,more]
 | succ k ih =>
  intro suf P x O i hk h1 hi hO;have hlen:l.length=P.length+(suf.length+1):=by rw[h1];simp
  have hoff:((if(decide (i>(0:Int)))=true then((at? l i)>>=fun b5058=>(at? l (i64.wrap (i-(1:Int))))>>=fun b5061=>some (i64.wrap ((i64.wrap (b5058-b5061))-(1:Int)))) else(some 0)):Option (Int))=some (match P.getLast? with | none=>0 | some q=>x-q-1):=by
   rcases List.eq_nil_or_concat P with rfl | ⟨Q,q,rfl⟩
   ·rw[if_neg (by simp[hi])];rfl
   ·simp only[List.concat_eq_append] at *
    have sx:=hm x (by rw[h1];simp);have sq:=hm q (by rw[h1];simp);rw[if_pos (by simp at hi ⊢;omega),Z06 h1 hi,sb,Z8 (n:=i-1) (by simp at hi;omega) (by simp at hi hlen;omega),Z06 (pre:=Q) (x:=q) (suf:=x::suf) (by simp[h1]) (by simp at hi;omega),sb,Z8 (n:=x-q) (by omega) (by omega),Z8 (n:=x-q-1) (by omega) (by omega)];simp
  have hml:=more_le suf x;have L1:=rof_l1 l hl hm O suf P [] x i 1 (by simp[h1]) hi (by simp);rw[show x+1-1=x by omega] at L1;rw[Z35.l0,if_pos (by simp;omega),L1,sb,hoff,sb,chkB (by simp;omega),Z8 (by omega) (by omega),runs_more];generalize (match P.getLast? with | none=>(0:Int) | some q=>x-q-1)=off;have hsplit:suf=suf.take (more x suf)++suf.drop (more x suf):=(List.take_append_drop _ _).symm;have htk:=more_take suf x;have htl:(suf.take (more x suf)).length=more x suf:=by rw[List.length_take];omega
  cases e:suf.drop (more x suf) with
  | nil =>
   have hd:=congrArg List.length e;rw[List.length_drop] at hd;simp only[List.length_nil] at hd;rw[Z35.l0,if_neg (by simp;omega)]
  | cons j r =>
   have hd:=congrArg List.length e;rw[List.length_drop] at hd;simp only[List.length_cons] at hd;have h4:l=(P++x::suf.take (more x suf))++j::r:=by rw[h1,List.append_assoc,List.cons_append,← e,← hsplit]
   have hlast:(P++x::suf.take (more x suf)).getLast? = some (x+more x suf):=by
    rw[htk,show x::seqI (x+1) (more x suf)=seqI x (more x suf+1) from rfl,seqI_snoc];simp
   rw[ih r (P++x::suf.take (more x suf)) j _ (i+(1+(more x suf:Int))) (by omega) h4 (by simp only[List.length_append,List.length_cons,htl];omega) (by simp only[List.length_append,List.length_cons,List.length_nil,htl];omega),hlast];simp
theorem rof_eq {l:List Int} (hl:l.length<1000000) (hm:Sm l):Z35.f l=some ((lay l).f0,(lay l).f1):=by
 unfold Z35.f;cases l with
 | nil=>rw[if_pos (by simp)];rfl
 | cons x l =>
  rw[if_neg (by simp;omega),rof_l0 (x::l) hl hm l.length l [] x [] 0 (Nat.le_refl _) rfl rfl (by simp),sb,show at? (x::l) 0=some x from rfl,sb];simp[lay]
variable {b:List Int}
theorem err_eq (a e:Int):Zu.f b a e=some ():=rfl
theorem right_l0_tot (L:Ze) (hl:L.f1.length≤1000) (hL:∀ s∈L.f1,0≤s.f0∧s.f0≤524288∧1≤s.f1∧s.f1≤512):∀ (suf pre:List Z2u) (n i:Int),L.f1=pre++suf→i=(pre.length:Int)→0≤n→n≤512 →
  ∃ r,Z34.l0 L 512 n i=some r∧(r = .inl false∨(r = .inr ()∧n+slen suf≤512)):=by
 intro suf
 induction suf with
 | nil=>intro pre n i h1 hi h0 hn;rw[Z34.l0,if_neg (by rw[h1];simp[hi])];exact⟨_,rfl,.inr ⟨rfl,by simp[slen];omega⟩⟩
 | cons s suf ih =>
  intro pre n i h1 hi h0 hn;have hlen:L.f1.length=pre.length+(suf.length+1):=by rw[h1];simp
  have hs:=hL s (by rw[h1];simp);rw[Z34.l0,if_pos (by simp;omega),Z06 h1 hi,sb,Z8 (n:=512-n) (by omega) (by omega)];by_cases c:s.f1>512-n
  ·rw[if_neg (by simp;omega),if_pos (by simpa using c),sb,if_pos rfl];exact⟨_,rfl,.inl rfl⟩
  rw[if_neg (by simp;omega),if_neg (by simpa using c),if_neg (by simp;omega),if_neg (by simp;omega),sb,Z8 (n:=n+s.f1) (by omega) (by omega),Z8 (n:=i+1) (by omega) (by omega)];by_cases c2:(!((i==(0:Int))==(s.f0==(0:Int))))=true
  ·rw[if_pos c2];exact⟨_,rfl,.inl rfl⟩
  rw[if_neg c2];obtain⟨r,e,hr⟩:=ih (pre++[s]) (n+s.f1) (i+1) (by simp[h1]) (by simp;omega) (by omega) (by omega);refine⟨r,e,?_⟩;rcases hr with hr | ⟨hr,h2⟩
  ·exact .inl hr
  ·exact .inr ⟨hr,by simp only[slen];omega⟩
theorem right_tot (L:Ze) (hl:L.f1.length≤1000) (hL:∀ s∈L.f1,0≤s.f0∧s.f0≤524288∧1≤s.f1∧s.f1≤512):∃ r,Z34.f L 512=some r∧(r=true→slen L.f1≤512 ∧ -262144≤L.f0∧L.f0≤262144):=by
 unfold Z34.f;by_cases h:L.f1=[]
 ·rw[if_pos (by simp[h])];exact⟨_,rfl,fun hr=>by simp at hr;rw[h,hr];simp[slen]⟩
 rw[if_neg (by simpa using h)];obtain⟨r,e,hr⟩:=right_l0_tot L hl hL L.f1 [] 0 0 rfl rfl (by omega) (by omega);rw[e,sb];rcases hr with rfl | ⟨rfl,h2⟩
 ·exact⟨_,rfl,by simp⟩
 ·dsimp only
  by_cases c:L.f0 ≥ -262144
  ·rw[if_pos (by simpa using c),sb];exact⟨_,rfl,fun hr=>by simp at hr;omega⟩
  ·rw[if_neg (by simpa using c),sb];exact⟨_,rfl,by simp⟩
theorem tk_l0_tot (hb:Src b) (F N:Int) (hN:N≤512):∀ (m:Nat) (pre:List Z2u) (a:Nat) (e i:Int),N-i≤m→i=(pre.length:Int)→pre.length≤512→a≤8*b.length→(∀ s∈pre,0≤s.f0∧s.f0≤524288∧1≤s.f1∧s.f1≤512) →
  ∃ (a':Nat) (e':Int) (x:List Z2u),Z1h.l0 b 512 F N (a:Int) e pre i=some ((a':Int),e',x)∧a'≤8*b.length∧x.length≤512∧∀ s∈x,0≤s.f0∧s.f0≤524288∧1≤s.f1∧s.f1≤512:=by
 intro m
 induction m with
 | zero =>
  intro pre a e i hm hi hp ha hok;rw[Z1h.l0,if_neg (by simp;omega),sb,if_neg (by simp)];exact⟨a,e,pre,rfl,ha,hp,hok⟩
 | succ m ih =>
  intro pre a e i hm hi hp ha hok;have w511:i64.wrap ((512:Int)-1)=((511:Nat):Int):=by decide
  rw[Z1h.l0];by_cases c:i<N
  case neg=>rw[if_neg (by simpa using c),sb,if_neg (by simp)];exact⟨a,e,pre,rfl,ha,hp,hok⟩
  rw[if_pos (by simpa using c),err_eq,sb,sb];by_cases ce:e=0
  case neg=>rw[if_neg (by simpa using ce)];exact⟨a,e,pre,rfl,ha,hp,hok⟩
  rw[if_pos (by simpa using ce),w511];obtain⟨o,a1,e1,E1,g1,g2⟩:∃ (o:Int) (a1:Nat) (e1:Int),((if(decide (i>(0:Int)))=true then((Z7.f b (a:Int) e 524287)>>=fun t2729=>some (t2729.2.1,t2729.2.2,i64.wrap ((1:Int)+t2729.1))) else(some ((a:Int),e,0))):Option (Int×Int×Int))=some ((a1:Int),e1,o)∧a1≤8*b.length∧0≤o∧o≤524288:=by
   by_cases c2:i>0
   ·obtain⟨n,a1,e1,h1,h2,h3⟩:=Z81       hb ha e (m:=524287) (by omega)
    rw[if_pos (by simpa using c2),show Z7.f b (a:Int) e 524287=_ from h1,sb];dsimp only;exact⟨_,a1,e1,rfl,h2,by rw[Z8 (by omega) (by omega)];omega⟩
   ·rw[if_neg (by simpa using c2)];exact⟨0,a,e,rfl,ha,by omega,by omega⟩
  rw[E1,sb];dsimp only;obtain⟨n,a2,e2,h1,h2,h3⟩:=Z81 hb g1 e1 (m:=511) (by omega);rw[h1,sb,chkB (by simp;omega),Z8 (n:=i+1) (by omega) (by omega)];dsimp only;exact ih (pre++[_]) a2 e2 (i+1) (by omega) (by simp;omega) (by simp;omega) h2 (fun s hs=>by
   rcases List.mem_append.1 hs with hs | hs
   ·exact hok s hs
   ·simp at hs;subst hs
    dsimp only;rw[Z8 (by omega) (by omega)];omega)
structure LOk (L:Ze):Prop where
 sp:SpOk L.f1
 first : -262144≤L.f0∧L.f0≤262144
 len:slen L.f1≤512
theorem tk_tot (hb:Src b) {a:Nat} (ha:a≤8*b.length) (e:Int):∃ (L:Ze) (a':Nat) (e':Int),Z1h.f b (a:Int) e 512=some (L,(a':Int),e')∧a'≤8*b.length∧LOk L:=by
 unfold Z1h.f;obtain⟨n,a1,e1,h1,h2,h3⟩:=Z81 hb ha e (m:=512) (by omega);rw[show Z7.f b (a:Int) e 512=_ from h1,sb];dsimp only;obtain⟨a2,e2,F,N,E2,g1,g2⟩:∃ (a2:Nat) (e2 F N:Int),((if(decide ((n:Int)>(0:Int)))=true then((Z0c.f b (a1:Int) e1)>>=fun t2688=>((if(decide (t2688.1≥(-262144)))=true then(some (decide (t2688.1≤(262144:Int)))) else(some false)):Option (Bool))>>=fun x2692=>((if x2692=true then(some (t2688.1,(n:Int))) else(some (0,(-1)))):Option (Int×Int))>>=fun oo=>match oo with | (x2694,x2695)=>(some (t2688.2.1,t2688.2.2,x2694,x2695))) else(some ((a1:Int),e1,0,(n:Int)))):Option (Int×Int×Int×Int))=some ((a2:Int),e2,F,N)∧a2≤8*b.length∧N≤512:=by
  by_cases c:(n:Int)>0
  ·obtain⟨x,a2,e2,k1,k2,k3⟩:=Zdt     hb h2 e1
   rw[if_pos (by simpa using c),k1,sb];dsimp only;by_cases c2:x ≥ -262144
   ·rw[if_pos (by simpa using c2),sb]
    by_cases c3:x≤262144
    ·rw[decide_eq_true c3,if_pos rfl,sb];exact⟨_,_,_,_,rfl,k2,by omega⟩
    ·rw[decide_eq_false c3,if_neg (by simp),sb];exact⟨_,_,_,_,rfl,k2,by omega⟩
   ·rw[if_neg (by simpa using c2),sb,if_neg (by simp),sb];exact⟨_,_,_,_,rfl,k2,by omega⟩
  ·rw[if_neg (by simpa using c)];exact⟨_,_,_,_,rfl,h2,by omega⟩
 rw[E2,sb];dsimp only;obtain⟨a3,e3,x,E3,g3,g4,g5⟩:=tk_l0_tot hb F N g2 (N-0).toNat [] a2 e2 0 (by omega) rfl (by simp) g1 (by simp);rw[E3,sb];dsimp only;rw[err_eq,sb];have h0:LOk (⟨0,[]⟩:Ze):=⟨⟨by simp,by simp⟩,by simp,by simp[slen]⟩
 by_cases c1:e3=0
 case neg=>rw[if_pos (by simpa using c1),sb,if_pos rfl];exact⟨_,_,_,rfl,g3,h0⟩
 rw[if_neg (by simpa using c1)];by_cases c2:N<0
 ·rw[if_pos (by simpa using c2),sb,if_pos rfl];exact⟨_,_,_,rfl,g3,h0⟩
 rw[if_neg (by simpa using c2)];obtain⟨r,er,hr⟩:=right_tot (⟨F,x⟩:Ze) (by show x.length≤_;omega) g5;rw[er,sb,sb];cases r with
 | false=>rw[if_pos (show(!false)=true from rfl)];exact⟨_,_,_,rfl,g3,h0⟩
 | true =>
  obtain⟨k1,k2,k3⟩:=hr rfl;rw[if_neg (by simp)];exact⟨_,_,_,rfl,g3,⟨⟨fun s hs=>by have:=g5 s hs;omega,by show x.length≤_;omega⟩,⟨k2,k3⟩,k1⟩⟩
theorem cnt_l1 (j:Int) (t x:List Int) (q:Int):∀ (b:List Z0),b.length<1000000000000→∃ r,Z0v.l1 j t x q b=some r∧r.length≤b.length∧(∃ d,b=d++r∧∀ y∈d,y.f0<j)∧(∀ y,r.head? = some y→j≤y.f0):=by
 intro b
 induction b with
 | nil=>intro _;rw[Z0v.l1,if_neg (by simp),sb,if_neg (by simp)];exact⟨[],rfl,by simp,⟨[],rfl,by simp⟩,by simp⟩
 | cons y b ih =>
  intro hl;simp only[List.length_cons] at hl;rw[Z0v.l1,if_pos (by simp<;>omega),show at? (y::b) 0=some y from rfl,sb,sb];by_cases c:y.f0<j
  ·rw[if_pos (by simpa using c),chkB (by simp;omega),tl1]
   obtain⟨r,e,h1,⟨d,h2,h3⟩,h4⟩:=ih (by omega);exact⟨r,e,by simp;omega,⟨y::d,by simp[h2],fun z hz=>by rcases List.mem_cons.1 hz with rfl | hz;exact c;exact h3 z hz⟩,h4⟩
  ·rw[if_neg (by simpa using c)]
   exact⟨y::b,rfl,Nat.le_refl _,⟨[],rfl,by simp⟩,fun z hz=>by simp at hz;subst hz;omega⟩
theorem tot_drop {d r:List Z0} {j:Int} (h:∀ y∈d,y.f0<j) {i:Int} (hi:j≤i):tot (d++r) i=tot r i:=by
 rw[Z3g,tot_zero (fun y hy=>by have:=h y hy;omega)];omega
theorem cnt_l0 (P:List Int) (hP:Inc P) (hl:P.length<1000000):∀ (suf pre:List Int) (r:List Z0) (o:List Int) (i:Int),P=pre++suf→i=(pre.length:Int)→Z3p r→r.length<1000000000000→o.length≤pre.length →
  Z0v.l0 P r o i=some (o++suf.map (tot r)):=by
 intro suf
 induction suf with
 | nil=>intro pre r o i h1 hi hc hr ho;rw[Z0v.l0,if_neg (by rw[h1];simp[hi])];simp
 | cons j suf ih =>
  intro pre r o i h1 hi hc hr ho;have hlen:P.length=pre.length+(suf.length+1):=by rw[h1];simp
  have hj:∀ k∈suf,j<k:=by
   rw[h1] at hP;exact(List.pairwise_cons.1 (List.pairwise_append.1 hP).2.1).1
  rw[Z0v.l0,if_pos (by simp;omega),Z06 h1 hi,sb];obtain⟨r',e,g1,⟨d,g2,g3⟩,g4⟩:=cnt_l1 j P o i r hr;rw[e,sb,Z8 (n:=i+1) (by omega) (by omega)];have hc':Z3p r':=by
   rw[g2] at hc;exact⟨(List.pairwise_append.1 hc.up).2.1,fun y hy=>hc.pos y (by simp[hy])⟩
  have htj:tot r j=tot r' j:=by rw[g2];exact tot_drop g3 (Int.le_refl _)
  have hts:∀ k∈suf,tot r k=tot r' k:=fun k hk=>by rw[g2];exact tot_drop g3 (by have:=hj k hk;omega)
  have fin:∀ v:Int,v=tot r' j→Z0v.l0 P r' (o++[v]) (i+1)=some (o++(j::suf).map (tot r)):=by
   intro v hv;rw[ih (pre++[j]) r' (o++[v]) (i+1) (by simp[h1]) (by simp;omega) hc' (by omega) (by simp;omega),List.map_cons,htj,hv,List.map_congr_left hts];simp
  cases r' with
  | nil =>
   rw[if_neg (by simp),sb,if_neg (by simp),chkB (by simp;omega),sb];exact fin 0 (by simp[tot])
  | cons y r'' =>
   rw[if_pos (by simp<;>omega),show at? (y::r'') 0=some y from rfl,sb,sb];by_cases c:y.f0=j
   ·rw[if_pos (by simpa using c),sb,chkB (by simp;omega),sb]
    exact fin y.f1 (by rw[← c,hc'.tot_head])
   ·rw[if_neg (by simpa using c),chkB (by simp;omega),sb]
    have:=g4 y rfl;exact fin 0 (by rw[hc'.tot_low (by omega)])
theorem counts_eq {P:List Int} (hP:Inc P) (hm:Sm P) (hl:P.length<1000000) {r:List Z0} (hc:Z3p r) (hr:r.length<1000000000000):Z0v.f (lay P) r=some (P.map (tot r)):=by
 unfold Z0v.f;rw[Zdu hm hl,sb,cnt_l0 P hP hl P [] r [] 0 rfl rfl hc hr (by simp),sb];rfl
def bks:List Int→List Int→List Z0
 | i::P,n::c=>if 0<n then⟨i,n⟩::bks P c else bks P c
 | _,_=>[]
theorem bks_len:∀ (P c:List Int),(bks P c).length≤P.length
 | [],_=>by simp[bks]
 | i::P,[]=>by simp[bks]
 | i::P,n::c=>by rw[bks];have:=bks_len P c;split<;>simp<;>omega
theorem bks_mem:∀ (P c:List Int) (y:Z0),y∈bks P c→y.f0∈P∧y.f1∈c∧0<y.f1
 | [],_,y,h=>by simp[bks] at h
 | i::P,[],y,h=>by simp[bks] at h
 | i::P,n::c,y,h=>by
  rw[bks] at h;split at h
  ·rcases List.mem_cons.1 h with rfl | h
   ·rename_i h0;exact⟨by simp,by simp,h0⟩
   ·have:=bks_mem P c y h;exact⟨by simp[this.1],by simp[this.2.1],this.2.2⟩
  ·have:=bks_mem P c y h;exact⟨by simp[this.1],by simp[this.2.1],this.2.2⟩
theorem bk_l0 (P c:List Int) (hl:P.length<1000000):∀ (suf pre:List Int) (cs cp:List Int) (o:List Z0) (i:Int),P=pre++suf→c=cp++cs→cp.length=pre.length→i=(pre.length:Int)→o.length≤pre.length→cs.length=suf.length →
  Z1o.l0 c P o i=some (o++bks suf cs):=by
 intro suf
 induction suf with
 | nil=>intro pre cs cp o i h1 h2 h3 hi ho _;rw[Z1o.l0,if_neg (by rw[h1];simp[hi])];simp[bks]
 | cons j suf ih =>
  intro pre cs cp o i h1 h2 h3 hi ho h4;have hlen:P.length=pre.length+(suf.length+1):=by rw[h1];simp
  cases cs with
  | nil=>simp at h4
  | cons n cs =>
   have hcl:c.length=cp.length+(cs.length+1):=by rw[h2];simp
   have an:=Z06 h2 (i:=i) (by omega);rw[Z1o.l0,if_pos (by simp;omega),Z06 h1 hi,sb,if_pos (by simp;omega),an,sb,sb,Z8 (n:=i+1) (by omega) (by omega),bks];by_cases q:0<n
   ·rw[if_pos (by simpa using q),if_pos q,sb,chkB (by simp;omega),sb,ih (pre++[j]) cs (cp++[n]) _ (i+1) (by simp[h1]) (by simp[h2]) (by simp[h3]) (by simp;omega) (by simp;omega) (by simpa using h4)]
    simp
   ·rw[if_neg (by simpa using q),if_neg q,sb,ih (pre++[j]) cs (cp++[n]) _ (i+1) (by simp[h1]) (by simp[h2]) (by simp[h3]) (by simp;omega) (by simp;omega) (by simpa using h4)]
theorem Zf7 {L:Ze} {P:List Int} (hi:Zq.f L=some P) (hl:P.length<1000000) {c:List Int} (hc:c.length=P.length):Z1o.f L c=some (bks P c):=by
 unfold Z1o.f;rw[hi,sb,bk_l0 P c hl P [] c [] [] 0 rfl rfl rfl rfl (by simp) hc,sb];rfl
end Go.Proofs.YtpoihfcehejgfaaGreat.PvGS2
namespace Go.Proofs.YtpoihfcehejgfaaGreat.PvGS2
open Go Go.Pv Go.Pv.GS Go.IntKind
def cnt (l:List Z0):Int:=(l.map (·.f1)).sum
theorem Z11 {l:List Z0} (h:Nn l):0≤cnt l:=Z7c (fun x hx=>by
 obtain⟨b,hb,rfl⟩:=List.mem_map.1 hx;exact h b hb)
theorem Z5b (b:Z0) (l:List Z0):cnt (b::l)=b.f1+cnt l:=by simp[cnt]
theorem Z9t (a b:List Z0):cnt (a++b)=cnt a+cnt b:=by simp[cnt]
theorem total_l1 (a0:List (List Z0)) (x769:Int) (l:List Z0) (hl:l.length<1000000000):∀ (suf pre:List Z0) (acc i:Int),l=pre++suf→i=(pre.length:Int)→U64 acc→(∀ b∈suf,U64 b.f1) →
  Z17.l1 a0 l x769 acc i=some (if acc+cnt suf<18446744073709551616 then .inr (acc+cnt suf) else .inl (0,5)):=by
 intro suf
 induction suf with
 | nil =>
  intro pre acc i h1 hi ha hs;subst h1;rw[Z17.l1,if_neg (by simp[hi])];simp[cnt,ha.2]
 | cons x suf ih =>
  intro pre acc i h1 hi ha hs;have hx:=hs x (by simp);have hs':∀ y∈suf,U64 y.f1:=fun y hy=>hs y (by simp[hy])
  have hnn:0≤cnt suf:=Z11 (fun y hy=>(hs' y hy).1);have hlen:(l.length:Int)=pre.length+(suf.length+1):=by rw[h1];simp
  rw[Z17.l1,if_pos (by simp;omega),Z06 h1 hi,sb,num_add2 ha hx,sb,Z8 (by omega) (by omega),Z5b];by_cases hov:acc+x.f1<18446744073709551616
  ·rw[if_pos hov,if_neg (by simp),ih (pre++[x]) (acc+x.f1) (i+1) (by simp[h1]) (by simp;omega) ⟨by omega,hov⟩ hs',Int.add_assoc]
  ·rw[if_neg hov,if_pos (by simp),if_neg (by omega)]
theorem total_l0 (a0:List (List Z0)) (ha0:a0.length<1000000000):∀ (suf pre:List (List Z0)) (acc i:Int),a0=pre++suf→i=(pre.length:Int)→U64 acc→(∀ l∈suf,l.length<1000000000∧∀ b∈l,U64 b.f1) →
  Z17.l0 a0 acc i=some (if acc+(suf.map cnt).sum<18446744073709551616 then .inr (acc+(suf.map cnt).sum) else .inl (0,5)):=by
 intro suf
 induction suf with
 | nil =>
  intro pre acc i h1 hi ha hs;subst h1;rw[Z17.l0,if_neg (by simp[hi])];simp[ha.2]
 | cons x suf ih =>
  intro pre acc i h1 hi ha hs;have hx:=hs x (by simp);have hs':∀ l∈suf,l.length<1000000000∧∀ b∈l,U64 b.f1:=fun y hy=>hs y (by simp[hy])
  have hx0:0≤cnt x:=Z11 (fun y hy=>(hx.2 y hy).1);have hnn:0≤(suf.map cnt).sum:=Z7c (fun y hy=>by
   obtain⟨l,hl,rfl⟩:=List.mem_map.1 hy;exact Z11 (fun y hy=>((hs' l hl).2 y hy).1))
  have hlen:(a0.length:Int)=pre.length+(suf.length+1):=by rw[h1];simp
  rw[Z17.l0,if_pos (by simp;omega),Z06 h1 hi,sb,total_l1 a0 i x hx.1 x [] acc 0 rfl rfl ha hx.2,sb,Z8 (by omega) (by omega),List.map_cons,List.sum_cons];by_cases hov:acc+cnt x<18446744073709551616
  ·rw[if_pos hov]
   simp only[];rw[ih (pre++[x]) (acc+cnt x) (i+1) (by simp[h1]) (by simp;omega) ⟨by omega,hov⟩ hs',Int.add_assoc]
  ·rw[if_neg hov,if_neg (by omega)]
theorem total3 (p n:List Z0) (z:Int) (hp:p.length<1000000000) (hn:n.length<1000000000) (hpU:∀ b∈p,U64 b.f1) (hnU:∀ b∈n,U64 b.f1) (hz:U64 z) :
  Z17.f [p,n,[(⟨0,z⟩:Z0)]]=some (if cnt p+cnt n+z<18446744073709551616 then(cnt p+cnt n+z,0) else(0,5)):=by
 unfold Z17.f;rw[total_l0 [p,n,[(⟨0,z⟩:Z0)]] (by simp) [p,n,[(⟨0,z⟩:Z0)]] [] 0 0 rfl rfl (by omega) (by
  intro l hl;simp only[List.mem_cons,List.not_mem_nil,or_false] at hl;rcases hl with rfl | rfl | rfl
  ·exact⟨hp,hpU⟩
  ·exact⟨hn,hnU⟩
  ·exact⟨by simp,by simp;exact hz⟩),sb]
 have e:0+(([p,n,[(⟨0,z⟩:Z0)]]:List (List Z0)).map cnt).sum=cnt p+cnt n+z:=by simp[cnt];omega
 rw[e];by_cases h:cnt p+cnt n+z<18446744073709551616
 ·rw[if_pos h,if_pos h]
 ·rw[if_neg h,if_neg h]
theorem Zcy (s:Int):Z0m.f s=some (decide (-4≤s)&&decide (s≤8)):=by
 unfold Z0m.f;rw[ifand];rfl
def Z19 (s:Int):Prop:=-4≤s∧s≤8
instance (s:Int):Decidable (Z19 s):=inferInstanceAs (Decidable (_∧_))
theorem Z6v {s:Int} (h:Z19 s):Z0m.f s=some true:=by rw[Zcy];simp[h.1,h.2]
theorem Zbk {s:Int} (h:¬ Z19 s):Z0m.f s=some false:=by rw[Zcy];simp[Z19] at h ⊢;omega
def stp (s:Int):Int:=2 ^ (8-s).toNat
theorem Z6e (s:Int):0<stp s:=by unfold stp;exact Int.pow_pos (by omega)
theorem stp_le {s:Int} (h:Z19 s):stp s≤4096:=by
 have h1:=h.1;have h2:=h.2;have:s = -4∨s = -3∨s = -2∨s = -1∨s=0∨s=1∨s=2∨s=3∨s=4∨s=5∨s=6∨s=7∨s=8:=by omega
 rcases this with rfl | rfl | rfl | rfl | rfl | rfl | rfl | rfl | rfl | rfl | rfl | rfl | rfl<;>decide
theorem shift_eq {s:Int} (h:Z19 s):min (Int.toNat (u64.wrap (i64.wrap ((8:Int)-s)))) 64=(8-s).toNat:=by
 have h1:=h.1;have h2:=h.2;rw[Z8 (by omega) (by omega),Z2l (by omega) (by omega)];omega
theorem most_T {s:Int} (h:Z19 s):Z3m.f s=some (262144 / stp s):=by
 unfold Z3m.f Z3t.f;rw[Z6v h,sb,if_neg (by simp),sb,chkB (Z7m _).1,shift_eq h,Int.fdiv_eq_ediv_of_nonneg _ (by exact Int.le_of_lt (Z6e s))];rfl
theorem most_F {s:Int} (h:¬ Z19 s):Z3m.f s=some 0:=by
 unfold Z3m.f;rw[Zbk h,sb,if_pos (by simp)]
theorem units_T {s i:Int} (h:Z19 s) (hi : -1000000000000<i∧i<1000000000000):Z22.f s i=some (i*stp s):=by
 unfold Z22.f Z3t.f;rw[Z6v h,sb,if_neg (by simp),sb,chkB (Z7m _).1,shift_eq h];have h1:=Z6e s;have h2:=stp_le h;have h3:i*stp s≤1000000000000*4096:=by
  by_cases h0:0≤i
  ·exact Int.mul_le_mul (by omega) h2 (by omega) (by omega)
  ·have:i*stp s≤0:=Int.mul_nonpos_of_nonpos_of_nonneg (by omega) (by omega);omega
 have h4 : -(1000000000000*4096)≤i*stp s:=by
  by_cases h0:0≤i
  ·have:0≤i*stp s:=Int.mul_nonneg h0 (by omega);omega
  ·have : -i*stp s≤1000000000000*4096:=Int.mul_le_mul (by omega) h2 (by omega) (by omega)
   rw[Int.neg_mul] at this;omega
 show some (i64.wrap (i*stp s))=_;rw[Z8 (by omega) (by omega)]
theorem units_some (s i:Int):∃ r,Z22.f s i=some r:=by
 unfold Z22.f Z3t.f;by_cases h:Z19 s
 ·rw[Z6v h,sb,if_neg (by simp),sb,chkB (Z7m _).1];exact⟨_,rfl⟩
 ·rw[Zbk h,sb,if_pos (by simp)];exact⟨_,rfl⟩
theorem low_some (s i:Int):∃ r,Z46.f s i=some r:=by
 unfold Z46.f;obtain⟨r,e⟩:=units_some s (i64.wrap (i-1));rw[e];exact⟨_,rfl⟩
theorem least_some (s:Int):∃ r,Z4c.f s=some r:=by
 unfold Z4c.f;by_cases h:Z19 s
 ·rw[most_T h];exact⟨_,rfl⟩
 ·rw[most_F h];exact⟨_,rfl⟩
theorem most_some (s:Int):∃ r,Z3m.f s=some r:=by
 by_cases h:Z19 s
 ·exact⟨_,most_T h⟩
 ·exact⟨_,most_F h⟩
theorem in_some (s i:Int):∃ r,Z53.f s i=some r:=by
 unfold Z53.f;obtain⟨r1,e1⟩:=least_some s;obtain⟨r2,e2⟩:=most_some s;rw[e1,e2,Zcy,sb,sb,sb];split
 ·split<;>exact⟨_,rfl⟩
 ·exact⟨_,rfl⟩
theorem Ze9 (h:Zh) (l:List Z0) (hl:l.length<1000000000):∀ (suf pre:List Z0) (i:Int),l=pre++suf→i=(pre.length:Int)→∃ r,Zt.l0 h l i=some r:=by
 intro suf
 induction suf with
 | nil =>
  intro pre i h1 hi;subst h1;rw[Zt.l0,if_neg (by simp[hi])];exact⟨_,rfl⟩
 | cons x suf ih =>
  intro pre i h1 hi;have hlen:(l.length:Int)=pre.length+(suf.length+1):=by rw[h1];simp
  obtain⟨b1,e1⟩:=in_some h.f1 x.f0;obtain⟨b2,e2⟩:=low_some h.f1 x.f0;obtain⟨r,e3⟩:=ih (pre++[x]) (i+1) (by simp[h1]) (by simp;omega);rw[Zt.l0,if_pos (by simp;omega),Z06 h1 hi,sb,e1,sb,e2,sb,Z8 (n:=i+1) (by omega) (by omega),e3];by_cases c1:(!b1)=true
  ·rw[if_pos c1];exact⟨_,rfl⟩
  rw[if_neg c1];have:∃ c,((if(decide (i>(0:Int)))=true then((at? l (i64.wrap (i-(1:Int))))>>=fun b922=>some (decide (b922.f0≥x.f0))) else(some false)):Option (Bool))=some c:=by
   by_cases h0:i>0
   ·rw[if_pos (by simpa using h0),Z8 (by omega) (by omega),at_lt (by omega) (by omega)];exact⟨_,rfl⟩
   ·rw[if_neg (by simpa using h0)];exact⟨_,rfl⟩
  obtain⟨c,ec⟩:=this;rw[ec,sb];split
  ·exact⟨_,rfl⟩
  ·split
   ·exact⟨_,rfl⟩
   ·split<;>exact⟨_,rfl⟩
theorem Zcj (h:Zh) (l:List Z0) (hl:l.length<1000000000):∃ r,Zt.f h l=some r:=by
 unfold Zt.f;obtain⟨r,e⟩:=Ze9 h l hl l [] 0 rfl rfl;rw[e,sb];split
 ·exact⟨_,rfl⟩
 ·cases r<;>exact⟨_,rfl⟩
theorem Z8s (h:Zh):Z0d.l0 h 0=((Zt.f h h.f6)>>=fun t=>if(t != (0:Int))=true then some (.inl t) else(Zt.f h h.f7)>>=fun t=>if(t != (0:Int))=true then some (.inl t) else some (.inr ())):=by
 have w1:i64.wrap (0+1)=1:=by decide
 have w2:i64.wrap (1+1)=2:=by decide
 rw[Z0d.l0,if_pos (by decide),chkB (by omega),if_pos (by decide),sb,w1];congr 1;funext t;split
 ·rfl
 ·rw[         Z0d.l0,if_pos (by decide),chkB (by omega),if_neg (by decide),sb,w2]
  congr 1;funext t;split
  ·rfl
  ·rw[Z0d.l0,if_neg (by decide)]
structure Fits (h:Zh):Prop where
 kind:I64 h.f0
 schema:I64 h.f1
 zeroAt:I64 h.f2
 zero:U64 h.f3
 count:U64 h.f4
 sum:I64 h.f5
 pos:∀ b∈h.f6,I64 b.f0∧U64 b.f1
 neg:∀ b∈h.f7,I64 b.f0∧U64 b.f1
theorem check_some (h:Zh) (hf:Fits h) (hp:h.f6.length<1000000000) (hn:h.f7.length<1000000000):∃ r,Z0d.f h=some r:=by
 unfold Z0d.f;obtain⟨r1,e1⟩:=Zcj h h.f6 hp;obtain⟨r2,e2⟩:=Zcj h h.f7 hn;rw[Z8s,e1,e2,sb,Zcy,sb,total3 _ _ _ hp hn (fun b hb=>(hf.pos b hb).2) (fun b hb=>(hf.neg b hb).2) hf.zero,sb];have:∃ c,((if(h.f0 != (0:Int))=true then(some (h.f0 != (1:Int))) else(some false)):Option (Bool))=some c:=by split<;>exact⟨_,rfl⟩
 obtain⟨c,ec⟩:=this;rw[ec,sb];split
 ·exact⟨_,rfl⟩
 split
 ·exact⟨_,rfl⟩
 have:∃ c,((if(h.f2 != (-524288))=true then(if(decide (h.f2≤(-262144)))=true then(some true) else(some (decide (h.f2>(262144:Int))))) else(some false)):Option (Bool))=some c:=by
  split
  ·split<;>exact⟨_,rfl⟩
  ·exact⟨_,rfl⟩
 obtain⟨c,ec⟩:=this;rw[ec,sb];split
 ·exact⟨_,rfl⟩
 have:∃ c,((if(r1 != (0:Int))=true then some (.inl r1) else if(r2 != (0:Int))=true then some (.inl r2) else some (.inr ())):Option (Int ⊕ Unit))=some c:=by
  split
  ·exact⟨_,rfl⟩
  ·split<;>exact⟨_,rfl⟩
 obtain⟨c,ec⟩:=this;rw[ec,sb];cases c with
 | inl r=>exact⟨_,rfl⟩
 | inr u =>
  simp only[];rw[sb];generalize (if cnt h.f6+cnt h.f7+h.f3<18446744073709551616 then((cnt h.f6+cnt h.f7+h.f3,0):Int×Int) else(0,5))=q;split
  ·exact⟨_,rfl⟩
  ·split<;>exact⟨_,rfl⟩
theorem make_spec (h:Zh) (p n:List Z0) (hf:Fits h) (hp:p.length<10000000) (hn:n.length<10000000) (hpU:∀ b∈p,I64 b.f0∧U64 b.f1) (hnU:∀ b∈n,I64 b.f0∧U64 b.f1) :
  ∃ r e,        Z27.f h p n=some (r,e)∧r.f6.length<10000000∧r.f7.length<10000000∧(e≠0→r=⟨0,0,0,0,0,0,[],[]⟩) ∧
   (e=0→Fits r∧Z0d.f r=some 0∧Z27.f r r.f6 r.f7=some (r,0)∧Z3p r.f6∧Z3p r.f7∧(∀ i,tot r.f6 i=tot p i)∧(∀ i,tot r.f7 i=tot n i) ∧
    r.f0=h.f0∧r.f1=h.f1∧r.f2=h.f2∧r.f3=h.f3∧r.f5=h.f5∧r.f4=cnt r.f6+cnt r.f7+r.f3):=by
 rcases Z80 p (by omega) (fun b hb=>(hpU b hb).2) with ⟨o,e1,c1,t1,u1,s1,l1⟩ | ⟨e1,i1,t1⟩
 case inr =>
  have:∃ q,Z1d.f n=some q:=by
   rcases Z80 n (by omega) (fun b hb=>(hnU b hb).2) with ⟨o,e2,_⟩ | ⟨e2,_⟩<;>exact⟨_,e2⟩
  obtain⟨⟨q,e2'⟩,e2⟩:=this;have hq:e2'=0∨e2'=5:=by
   rcases Z80 n (by omega) (fun b hb=>(hnU b hb).2) with ⟨o,e3,_⟩ | ⟨e3,_⟩<;>rw[e2] at e3<;>simp at e3<;>simp[e3.2]
  unfold Z27.f;rw[e1,e2,sb,sb];have:(if e2'>5 then e2' else 5)=(5:Int):=by rcases hq with rfl | rfl<;>rfl
  simp only[this];exact⟨_,_,rfl,by simp,by simp,fun _=>rfl,fun h=>by simp at h⟩
 rcases Z80 n (by omega) (fun b hb=>(hnU b hb).2) with ⟨o2,e2,c2,t2,u2,s2,l2⟩ | ⟨e2,i2,t2⟩
 case inr =>
  unfold Z27.f;rw[e1,e2,sb,sb];exact⟨_,_,rfl,by simp,by simp,fun _=>rfl,fun h=>by simp at h⟩
 have hpos:∀ b∈o,I64 b.f0∧U64 b.f1:=fun b hb=>by
  obtain⟨q,hq,e⟩:=s1 b hb;exact⟨e ▸ (hpU q hq).1,u1 b hb⟩
 have hneg:∀ b∈o2,I64 b.f0∧U64 b.f1:=fun b hb=>by
  obtain⟨q,hq,e⟩:=s2 b hb;exact⟨e ▸ (hnU q hq).1,u2 b hb⟩
 have htot:=total3 o o2 h.f3 (by omega) (by omega) u1 u2 hf.zero;by_cases hov:cnt o+cnt o2+h.f3<18446744073709551616
 case neg =>
  rw[if_neg hov] at htot;unfold Z27.f;rw[e1,e2,sb,sb,if_neg (by simp),htot,sb,if_pos (by simp)];exact⟨_,_,rfl,by simp,by simp,fun _=>rfl,fun h=>by simp at h⟩
 rw[if_pos hov] at htot;have hn0:=Z11 c1.nn;have hn1:=Z11 c2.nn;have hz:=hf.zero;have hr:Fits (⟨h.f0,h.f1,h.f2,h.f3,cnt o+cnt o2+h.f3,h.f5,o,o2⟩:Zh):=⟨hf.kind,hf.schema,hf.zeroAt,hf.zero,⟨by simp;omega,hov⟩,hf.sum,hpos,hneg⟩
 obtain⟨c,ec⟩:=check_some _ hr (by simp;omega) (by simp;omega);by_cases hc:c=0
 case neg =>
  unfold Z27.f;rw[e1,e2,sb,sb,if_neg (by simp),htot,sb,if_neg (by simp),ec,sb,if_pos (by simpa using hc)];exact⟨_,_,rfl,by simp,by simp,fun _=>rfl,fun h=>absurd h hc⟩
 subst hc;have key:∀ (g:Zh) (p n:List Z0),Z1d.f p=some (o,0)→Z1d.f n=some (o2,0)→g.f0=h.f0→g.f1=h.f1→g.f2=h.f2→g.f3=h.f3→g.f5=h.f5→Z27.f g p n=some ((⟨h.f0,h.f1,h.f2,h.f3,cnt o+cnt o2+h.f3,h.f5,o,o2⟩:Zh),0):=by
  intro g p n q1 q2 g0 g1 g2 g3 g5;unfold Z27.f;rw[q1,q2,sb,sb,if_neg (by simp),g3,htot,sb,if_neg (by simp),g0,g1,g2,g5,ec,sb,if_neg (by simp)]
 exact⟨_,0,key h p n e1 e2 rfl rfl rfl rfl rfl,by simp;omega,by simp;omega,fun h=>absurd rfl h,fun _ =>
  ⟨hr,ec,key _ o o2 (tidy_id o (by omega) u1 c1) (tidy_id o2 (by omega) u2 c2) rfl rfl rfl rfl rfl,c1,c2,t1,t2,rfl,rfl,rfl,rfl,rfl,rfl⟩⟩
theorem stp_dvd {s:Int} (h:Z19 s):262144 / stp s*stp s=262144:=by
 have h1:=h.1;have h2:=h.2;have:s = -4∨s = -3∨s = -2∨s = -1∨s=0∨s=1∨s=2∨s=3∨s=4∨s=5∨s=6∨s=7∨s=8:=by omega
 rcases this with rfl | rfl | rfl | rfl | rfl | rfl | rfl | rfl | rfl | rfl | rfl | rfl | rfl<;>decide
def InS (s i:Int):Prop:=-262144<i*stp s∧i*stp s≤262144
instance (s i:Int):Decidable (InS s i):=inferInstanceAs (Decidable (_∧_))
theorem inS_iff {s i:Int} (h:Z19 s):InS s i ↔ -(262144 / stp s)+1≤i∧i≤262144 / stp s:=by
 have hp:=Z6e s;have hd:=stp_dvd h;unfold InS;generalize 262144 / stp s=q at *;generalize stp s=st at *;constructor
 ·rintro⟨h1,h2⟩
  constructor
  ·have : -q*st<i*st:=by rw[Int.neg_mul];omega
   have:=Int.lt_of_mul_lt_mul_right this (Int.le_of_lt hp);omega
  ·have:i*st≤q*st:=by omega
   exact Int.le_of_mul_le_mul_right this hp
 ·rintro⟨h1,h2⟩
  constructor
  ·have:=Int.mul_lt_mul_of_pos_right (show -q<i by omega) hp
   rw[Int.neg_mul] at this;omega
  ·have:=Int.mul_le_mul_of_nonneg_right h2 (Int.le_of_lt hp);omega
theorem Z48 {s i:Int} (hi:InS s i) : -262144<i∧i≤262144:=by
 have hp:=Z6e s;obtain⟨h1,h2⟩:=hi;constructor
 ·by_cases h:i ≤ -262144
  ·have:=Int.mul_le_mul_of_nonneg_right h (Int.le_of_lt hp)
   have h3 : -262144*stp s ≤ -262144*1:=by
    have:=Int.mul_le_mul_of_nonneg_left (show 1≤stp s by omega) (show(0:Int)≤262144 by omega);omega
   omega
  ·omega
 ·by_cases h:262144<i
  ·have:=Int.mul_le_mul_of_nonneg_right (show 262145≤i by omega) (Int.le_of_lt hp)
   have h3:=Int.mul_le_mul_of_nonneg_left (show 1≤stp s by omega) (show(0:Int)≤262145 by omega);omega
  ·omega
theorem in_T {s i:Int} (h:Z19 s):Z53.f s i=some (decide (InS s i)):=by
 have hp:=Z6e s;have hq:0≤262144 / stp s∧262144 / stp s≤262144:=⟨Int.ediv_nonneg (by omega) (by omega),Int.ediv_le_self _ (by omega)⟩
 unfold Z53.f Z4c.f;rw[Z6v h,most_T h];simp only[sb,if_pos];rw[Z8 (n:=0-_) (by omega) (by omega),Z8 (by omega) (by omega),ifand,sb];congr 1;rw[← Bool.decide_and,decide_eq_decide,inS_iff h];constructor<;>intro h<;>constructor<;>omega
theorem low_T {s i:Int} (h:Z19 s) (hi:InS s i):Z46.f s i=some ((i-1)*stp s):=by
 have:=Z48 hi;unfold Z46.f;rw[Z8 (by omega) (by omega),units_T h (by omega)];rfl
theorem units_in {s i:Int} (h:Z19 s) (hi:InS s i):Z22.f s i=some (i*stp s):=by
 have:=Z48 hi;exact units_T h (by omega)
theorem Z5k (s:Int):Z0y.f s=some (decide (Z19 s)):=by
 unfold Z0y.f;rw[ifand,← Bool.decide_and];rfl
theorem ref_step_l0 (s:Int):∀ (n:Nat) (x i:Int),i≤8→8-i=(n:Int) → -4≤i→0≤x→x*2 ^ n≤4096→Z3k.l0 x i=some (x*2 ^ n):=by
 intro n
 induction n with
 | zero=>intro x i h1 h2 h3 h4 h5;rw[Z3k.l0,if_neg (by simp;omega)];simp
 | succ n ih =>
  intro x i h1 h2 h3 h4 h5;have e:x*2 ^ (n+1)=x*2*2 ^ n:=by rw[Int.pow_succ,Int.mul_assoc,Int.mul_comm 2]
  have hp:(0:Int)<2 ^ n:=Int.pow_pos (by omega);have hle:x*2≤4096:=by
   have:=Int.mul_le_mul_of_nonneg_left (show(1:Int)≤2 ^ n by omega) (show 0≤x*2 by omega);omega
  rw[Z3k.l0,if_pos (by simp;omega),Z8 (n:=x*2) (by omega) (by omega),Z8 (n:=i+1) (by omega) (by omega),ih (x*2) (i+1) (by omega) (by omega) (by omega) (by omega) (by omega),e]
theorem ref_step {s:Int} (h:Z19 s):Z3k.f s=some (stp s):=by
 unfold Z3k.f;have h1:=h.1;have h2:=h.2;rw[ref_step_l0 s (8-s).toNat 1 s h2 (by omega) h1 (by omega) (by rw[Int.one_mul];exact stp_le h)];simp[stp]
theorem Z62 {s i:Int} (h:Z19 s) (hi : -1000000000000<i∧i<1000000000000):Z0w.f s i=some (i*stp s):=by
 unfold Z0w.f;rw[Z5k,sb,if_neg (by simp[h]),ref_step h,sb];have h1:=Z6e s;have h2:=stp_le h;have h3:i*stp s≤1000000000000*4096:=by
  by_cases h0:0≤i
  ·exact Int.mul_le_mul (by omega) h2 (by omega) (by omega)
  ·have:i*stp s≤0:=Int.mul_nonpos_of_nonpos_of_nonneg (by omega) (by omega);omega
 have h4 : -(1000000000000*4096)≤i*stp s:=by
  by_cases h0:0≤i
  ·have:0≤i*stp s:=Int.mul_nonneg h0 (by omega);omega
  ·have : -i*stp s≤1000000000000*4096:=Int.mul_le_mul (by omega) h2 (by omega) (by omega)
   rw[Int.neg_mul] at this;omega
 rw[Z8 (by omega) (by omega)]
theorem ref_in {s i:Int} (h:Z19 s) (hi:I64 i):Z7r.f s i=some (decide (InS s i)):=by
 unfold Z7r.f;rw[Z5k,sb,if_pos (by simp[h])];by_cases h1:i > -262144
 ·rw[if_pos (by simpa using h1)]
  by_cases h2:i≤262144
  ·rw[if_pos (by simpa using h2),Z62       h (by omega),sb]
   by_cases h3:i*stp s > -262144
   ·rw[if_pos (by simpa using h3),sb,sb]
    congr 1;rw[decide_eq_decide];exact⟨fun h=>⟨h3,h⟩,fun h=>h.2⟩
   ·rw[if_neg (by simpa using h3),sb]
    have:¬ InS s i:=fun h=>h3 h.1;simp[this]
  ·rw[if_neg (by simpa using h2),sb]
   have:¬ InS s i:=fun h=>by have:=Z48 h;omega
   simp[this]
 ·rw[if_neg (by simpa using h1),sb]
  have:¬ InS s i:=fun h=>by have:=Z48 h;omega
  simp[this]
end Go.Proofs.YtpoihfcehejgfaaGreat.PvGS2
