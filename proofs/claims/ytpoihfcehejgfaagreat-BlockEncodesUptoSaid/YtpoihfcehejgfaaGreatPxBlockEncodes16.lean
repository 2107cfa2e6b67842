import Derived.Test.YtpoihfcehejgfaaGreatPxBlockEncodes15
set_option linter.unusedVariables false
set_option linter.unusedSimpArgs false
set_option maxRecDepth 10000
namespace Go.Proofs.YtpoihfcehejgfaaGreat.PvGS1
open Go Go.Pv Go.Pv.GS Go.IntKind
theorem snoc_at' {α:Type} (l:List α) (x:α) (h:l.length<1000000000000):at? (l++[x]) (i64.wrap (((l++[x]).length:Int)-1))=some x:=by
 rw[List.length_append,List.length_singleton,Z8 (by omega) (by omega)];exact Z03 (pre:=l) (suf:=[]) rfl (by omega)
theorem snoc_set' {α:Type} (l:List α) (x y:α) (h:l.length<1000000000000):(l++[x]).set (Int.toNat (i64.wrap (((l++[x]).length:Int)-1))) y=l++[y]:=by
 rw[List.length_append,List.length_singleton,Z8 (by omega) (by omega),show(((l.length+1:Nat):Int)-1).toNat=l.length by omega];simp
theorem wbit {b:List Int} {f:Nat} {s:List Bool} (h:Laid b f s) (hl:s.length<1000000000000) (x:Bool):∃ (b':List Int) (f':Nat),Z0b.f b (f:Int) x=some (b',(f':Int))∧Laid b' f' (s++[x]):=by
 have hlen:=h.len;have hlt:=h.lt;obtain⟨b0,y,f0,e,h0⟩:∃ (b0:List Int) (y:Int) (f0:Nat),(((if((f:Int)==(0:Int))=true then((chk ((b.length+[0].length)*1≤140737488355328))>>=fun _=>some (b++[0],8)) else(some (b,(f:Int)))):Option ((List Int)×Int))=some (b0++[y],((f0+1:Nat):Int)))∧Laid (b0++[y]) f0 (s++[false]):=by
  by_cases q:f=0
  ·subst q
   rw[if_pos (by simp),chkB (by simp;omega)];exact⟨b,0,7,rfl,h.new0⟩
  ·rw[if_neg (by simpa using q)]
   obtain⟨f0,rfl⟩:∃ f0,f=f0+1:=⟨f-1,by omega⟩
   have h':=h.old0;rcases List.eq_nil_or_concat b with rfl | ⟨b0,y,rfl⟩
   ·simp at hlen
   ·rw[List.concat_eq_append] at *
    exact⟨b0,y,f0,rfl,h'⟩
 have hl0:b0.length<1000000000000:=by have:=h0.lt;have:=h0.len;simp at this;omega
 have hf0:=h0.lt;unfold Z0b.f;rw[e,sb];dsimp only;have w:u64.wrap (((f0+1:Nat):Int)-1)=(f0:Int):=by rw[Z2l (by omega) (by omega)];omega
 rw[w];cases x with
 | false=>rw[if_neg (by simp),sb];exact⟨_,_,rfl,h0⟩
 | true =>
  rw[if_pos rfl,snoc_at' _ _ (by omega),sb,chkB (by omega),sb,snoc_set' _ _ _ (by omega)];refine⟨_,_,rfl,?_⟩;have:=h0.set1;rw[Zc1] at this;exact this
theorem wput_l0 (n:Int) (hn0:0≤n) (hn:n<18446744073709551616):∀ (k:Nat) (b:List Int) (f:Nat) (s:List Bool),k≤64→s.length+k<1000000000000→Laid b f s →
  ∃ (b':List Int) (f':Nat),Zx.l0 n b (f:Int) ((k:Int)-1)=some (b',(f':Int))∧Laid b' f' (s++nb n.toNat k):=by
 intro k
 induction k with
 | zero =>
  intro b f s hk hl h;rw[Zx.l0,if_neg (by simp)];exact⟨b,f,rfl,by simpa[nb] using h⟩
 | succ k ih =>
  intro b f s hk hl h;rw[show((k+1:Nat):Int)-1=(k:Int) by omega];rw[Zx.l0,if_pos (by simp),Z2l (n:=(k:Int)) (by omega) (by omega),chkB (by omega),Int.toNat_natCast,bit_and hn0 hn k (by omega),Z8 (n:=(k:Int)-1) (by omega) (by omega)];obtain⟨b1,f1,e1,h1⟩:=wbit h (by omega) (n.toNat.testBit k);rw[e1,sb];obtain⟨b2,f2,e2,h2⟩:=ih b1 f1 _ (by omega) (by simp;omega) h1;exact⟨b2,f2,e2,by rw[nb];simpa using h2⟩
theorem wput {b:List Int} {f:Nat} {s:List Bool} (h:Laid b f s) (hl:s.length<900000000000) {n:Int} (hn0:0≤n) (hn:n<18446744073709551616) {k:Nat} (hk:k≤64) :
  ∃ (b':List Int) (f':Nat),Zx.f b (f:Int) n (k:Int)=some (b',(f':Int))∧Laid b' f' (s++nb n.toNat k):=by
 unfold Zx.f;have e:(if(if(64:Int)<(k:Int) then(64:Int) else(k:Int))>(0:Int) then(if(64:Int)<(k:Int) then(64:Int) else(k:Int)) else(0:Int))=(k:Int):=by
  by_cases q:(64:Int)<(k:Int)
  ·omega
  ·rw[if_neg q];by_cases q2:(k:Int)>0
   ·rw[if_pos q2]
   ·rw[if_neg q2];omega
 rw[e,Z8 (by omega) (by omega)];obtain⟨b',f',e,h⟩:=wput_l0 n hn0 hn k b f s hk (by omega) h;rw[e,sb];exact⟨b',f',rfl,h⟩
def blen:Nat→Nat
 | 0=>0
 | n+1=>blen ((n+1) / 2)+1
decreasing_by omega
theorem Zbm {n:Nat} (h:0<n):blen n=blen (n / 2)+1:=by
 obtain⟨m,rfl⟩:∃ m,n=m+1:=⟨n-1,by omega⟩
 rw[blen]
theorem blen_le:∀ {k n:Nat},n<2 ^ k↔blen n≤k
 | 0,n=>by
  rcases Nat.eq_zero_or_pos n with rfl | h
  ·simp[blen]
  ·rw[Zbm h];simp;omega
 | k+1,n=>by
  rcases Nat.eq_zero_or_pos n with rfl | h
  ·simp[blen,Nat.pow_pos]
  ·rw[Zbm       h,Nat.pow_succ,Nat.add_le_add_iff_right,← blen_le (k:=k)]
   omega
theorem long_l0:∀ (k n:Nat) (a:Int),n<2 ^ k→0≤a→a+k≤1000→Z29.l0 (n:Int) a=some (a+blen n):=by
 intro k
 induction k with
 | zero=>intro n a h _ _;rw[show n=0 by simpa using h,Z29.l0,if_neg (by simp)];simp[blen]
 | succ k ih =>
  intro n a h h0 h1;rcases Nat.eq_zero_or_pos n with rfl | hn
  ·rw[Z29.l0,if_neg (by simp)];simp[blen]
  ·rw[        Z29.l0,if_pos (by simp;omega),Int.fdiv_eq_ediv_of_nonneg _ (by omega),show(n:Int) / 2=((n / 2:Nat):Int) by omega,Z8     (by omega) (by omega)]
   rw[ih (n / 2) (a+1) (by rw[Nat.pow_succ] at h;omega) (by omega) (by omega),Zbm hn];congr 1;omega
theorem long_eq {n:Nat} (h:n<18446744073709551616):Z29.f (n:Int)=some (blen n:Int):=by
 unfold Z29.f;rw[long_l0 64 n 0 (by simpa using h) (by omega) (by omega),sb];simp
theorem blen64 {n:Nat} (h:n<18446744073709551616):blen n≤64:=blen_le.1 (by simpa using h)
def cls (k:Nat):Nat:=if k≤0 then 0 else if k≤3 then 1 else if k≤7 then 2 else if k≤12 then 3 else if k≤20 then 4 else if k≤32 then 5 else 6
def wid:Nat→Nat
 | 0=>0 | 1=>3 | 2=>7 | 3=>12 | 4=>20 | 5=>32 | _=>64
abbrev cl:List Int:=[0,3,7,12,20,32,64]
theorem cl_at:∀ i:Fin 7,cl[i.1]? = some ((wid i.1:Nat):Int):=by decide
theorem Zbj {i:Nat} (h:i<7):cl[i]? = some ((wid i:Nat):Int):=cl_at ⟨i,h⟩
theorem Z9f    (k : Nat) : cls k < 7 := by unfold cls; repeat' split
                                           all_goals omega
theorem wid_le (i:Nat):wid i≤64:=by unfold wid;split<;>omega
theorem le_wid {k:Nat} (h:k≤64):k≤wid (cls k):=by
 unfold cls;repeat' split
 all_goals simp only[wid];omega
theorem wid_lt {k i:Nat} (h:i<cls k):wid i<k:=by
 unfold cls at h;have:i<6:=by have:=Z9f k;unfold cls at this;omega
 rcases(show i=0∨i=1∨i=2∨i=3∨i=4∨i=5 by omega) with rfl | rfl | rfl | rfl | rfl | rfl<;>simp only[wid]<;>(revert h;repeat' split)<;>omega
theorem less_int (a b:Int):Z59.f a b=some (decide (a<b)):=by
 unfold Z59.f Z1l.f;simp[sb]
theorem binI_l0 (t:Nat) (ht:t≤64):∀ (n i j:Nat),j-i≤n→i≤cls t→cls t≤j→j≤7→Z01.l0 cl (t:Int) (i:Int) (j:Int)=some ((cls t:Nat):Int):=by
 intro n
 induction n with
 | zero =>
  intro i j h1 h2 h3 h4;rw[Z01.l0,if_neg (by simp;omega)];congr 2;omega
 | succ n ih =>
  intro i j h1 h2 h3 h4;by_cases hij:i<j
  case neg=>rw[Z01.l0,if_neg (by simp;omega)];congr 2;omega
  rw[Z01.l0,if_pos (by simp;omega),half_eq (by omega),Z69 rfl (Zbj (by omega)),sb,less_int,sb];by_cases hlt:wid ((i+j) / 2)<t
  ·rw[if_pos (by simp;omega),sb,Z8     (by omega) (by omega)]
   refine ih ((i+j) / 2+1) j (by omega) ?_ h3 h4;rcases Nat.lt_or_ge ((i+j) / 2) (cls t) with h | h
   ·exact h
   ·have:=le_wid ht
    have mono:wid (cls t)≤wid ((i+j) / 2):=by
     have a:=Z9f t;have hd:(i+j) / 2<7:=by omega
     generalize cls t=c at *;generalize (i+j) / 2=d at *;rcases(show c=0∨c=1∨c=2∨c=3∨c=4∨c=5∨c=6 by omega) with rfl | rfl | rfl | rfl | rfl | rfl | rfl <;>
     rcases(show d=0∨d=1∨d=2∨d=3∨d=4∨d=5∨d=6 by omega) with rfl | rfl | rfl | rfl | rfl | rfl | rfl<;>first | omega | (simp only[wid];omega)
    omega
  ·rw[if_neg (by simp;omega),sb]
   refine ih i ((i+j) / 2) (by omega) h2 ?_ (by omega);rcases Nat.lt_or_ge ((i+j) / 2) (cls t) with h | h
   ·exact absurd (wid_lt h) hlt
   ·exact h
theorem binI (t:Nat) (ht:t≤64):∃ b,Z01.f cl (t:Int)=some (((cls t:Nat):Int),b):=by
 unfold Z01.f;have e:=binI_l0 t ht 7 0 7 (by omega) (by omega) (by have:=Z9f t;omega) (by omega);rw[show((cl.length:Nat):Int)=((7:Nat):Int) from rfl,show(0:Int)=((0:Nat):Int) from rfl,e,sb,if_pos (by have:=Z9f t;simp;omega),Z69 rfl (Zbj (Z9f t)),sb];split
 ·exact⟨_,rfl⟩
 ·unfold                Z2v.f
  simp only[sb,bne_self_eq_false];exact⟨_,rfl⟩
def cnt2 (n:Nat):List Bool:=List.replicate (cls (blen n)) true++((if cls (blen n)<6 then [false] else [])++nb n (wid (cls (blen n))))
theorem Z0l (n:Nat):(cnt2 n).length≤71:=by
 have:=Z9f (blen n);have:=wid_le (cls (blen n));simp only[cnt2,List.length_append,List.length_replicate,Z4v];split<;>simp<;>omega
theorem wcount_l0 (n:Int) (c:List Int) (t:Int×Bool) (k:Nat) (ht:t.1=(k:Int)) (hk:k<100):∀ (m:Nat) (b:List Int) (f:Nat) (s:List Bool) (i:Int),i=((k-m:Nat):Int)→m≤k→s.length+m<1000000000000→Laid b f s →
  ∃ (b':List Int) (f':Nat),Z9.l0 n c t b (f:Int) i=some (b',(f':Int))∧Laid b' f' (s++List.replicate m true):=by
 intro m
 induction m with
 | zero=>intro b f s i hi hm hl h;rw[Z9.l0,if_neg (by simp;omega)];exact⟨b,f,rfl,by simpa using h⟩
 | succ m ih =>
  intro b f s i hi hm hl h;rw[Z9.l0,if_pos (by simp;omega),Z8 (by omega) (by omega)];obtain⟨b1,f1,e1,h1⟩:=wbit h (by omega) true;rw[e1,sb];obtain⟨b2,f2,e2,h2⟩:=ih b1 f1 _ (i+1) (by omega) (by omega) (by simp;omega) h1;exact⟨b2,f2,e2,by rw[List.replicate_succ];simpa using h2⟩
theorem Z6k {b:List Int} {f:Nat} {s:List Bool} (h:Laid b f s) (hl:s.length<800000000000) {n:Int} (hn0:0≤n) (hn:n<18446744073709551616) :
  ∃ (b':List Int) (f':Nat),Z9.f b (f:Int) n=some (b',(f':Int))∧Laid b' f' (s++cnt2 n.toNat):=by
 unfold Z9.f Z38.f;obtain⟨m,rfl⟩:=Int.eq_ofNat_of_zero_le hn0;have hb:=blen64 (n:=m) (by omega);have hc:=Z9f (blen m);obtain⟨t,ht⟩:=binI (blen m) hb;rw[sb,long_eq (by omega),sb,ht,sb];obtain⟨b1,f1,e1,h1⟩:=wcount_l0 (m:Int) cl (((cls (blen m):Nat):Int),t) (cls (blen m)) rfl (by omega) (cls (blen m)) b f s 0 (by omega) (by omega) (by omega) h;rw[e1,sb];dsimp only;have w:i64.wrap (((cl.length:Nat):Int)-1)=6:=by decide
 rw[w];have hs:(s++List.replicate (cls (blen m)) true).length<1000000000000:=by simp;omega
 rw[Int.toNat_natCast,cnt2,← List.append_assoc];by_cases h6:cls (blen m)<6
 ·obtain⟨b2,f2,e2,h2⟩:=wbit h1 hs false
  rw[if_pos (by simp;omega),e2,sb,sb,Z69 rfl (Zbj hc),sb];obtain⟨b3,f3,e3,h3⟩:=wput h2 (by simp;omega) (n:=(m:Int)) (by omega) hn (wid_le (cls (blen m)));dsimp only;rw[e3,sb,if_pos h6];exact⟨b3,f3,rfl,by simpa using h3⟩
 ·rw[if_neg (by simp;omega),sb]
  dsimp only;rw[Z69 rfl (Zbj hc),sb];obtain⟨b3,f3,e3,h3⟩:=wput h1 (by simp;omega) (n:=(m:Int)) (by omega) hn (wid_le (cls (blen m)));rw[e3,sb,if_neg h6];exact⟨b3,f3,rfl,by simpa using h3⟩
theorem rput_l0 (k:Nat) (hk:k≤64):∀ (m n:Nat) (a:List Bool) (i:Int),i=((k-m:Nat):Int)→m≤k→n<18446744073709551616→a.length+m<1000000000000→Z30.l0 (k:Int) (n:Int) (strB a) i=some (strB (nb n m++a)):=by
 intro m
 induction m with
 | zero =>
  intro n a i hi hm hn hl;rw[Z30.l0,if_neg (by simp;omega),sb,if_neg (by simp)];rfl
 | succ m ih =>
  intro n a i hi hm hn hl;have h1:Int.tmod (n:Int) 2=((n % 2:Nat):Int):=by rw[Int.tmod_eq_emod_of_nonneg (by omega)];omega
  have h2:Int.tdiv (n:Int) 2=((n / 2:Nat):Int):=by rw[Int.tdiv_eq_ediv_of_nonneg (by omega)];omega
  rw[Z30.l0,if_pos (by simp;omega),sb,if_pos (by simp;omega),h1,h2,Z2l (by omega) (by omega),Z8 (by omega) (by omega),nb_snoc];have e1:(⟨#[49]⟩:ByteArray)=strB [true]:=rfl;have e0:(⟨#[48]⟩:ByteArray)=strB [false]:=rfl;rcases Nat.mod_two_eq_zero_or_one n with h | h
  ·rw[if_neg (by rw[h];simp),e0,chkB (by rw[Zu       ,Zu       ];simp;omega),sb,← Z0p        ,ih (n / 2) _ (i+1) (by omega) (by omega) (by omega) (by simp;omega)]
   simp[h]
  ·rw[if_pos (by rw[h];simp),e1,chkB (by rw[Zu       ,Zu       ];simp;omega),sb,← Z0p        ,ih (n / 2) _ (i+1) (by omega) (by omega) (by omega) (by simp;omega)]
   simp[h]
theorem rput {n k:Nat} (hk:k≤64) (hn:n<18446744073709551616):Z30.f (n:Int) (k:Int)=some (strB (nb n k)):=by
 unfold Z30.f;rw[← strB_nil,rput_l0 k hk k n [] 0 (by omega) (by omega) hn (by simp;omega),sb,List.append_nil]
theorem rclass_l0:∀ (k n:Nat) (a:Int),n<2 ^ k→0≤a→a+k≤1000→n<18446744073709551616→Z1m.l0 (n:Int) a=some (a+blen n):=by
 intro k
 induction k with
 | zero=>intro n a h _ _ _;rw[show n=0 by simpa using h,Z1m.l0,if_neg (by simp)];simp[blen]
 | succ k ih =>
  intro n a h h0 h1 h2;rcases Nat.eq_zero_or_pos n with rfl | hn
  ·rw[Z1m.l0,if_neg (by simp)];simp[blen]
  ·rw[        Z1m.l0,if_pos (by simp;omega),Int.tdiv_eq_ediv_of_nonneg (by omega),show(n:Int) / 2=((n / 2:Nat):Int) by omega,Z2l   (by omega) (by omega),Z8     (by omega) (by omega)]
   rw[ih (n / 2) (a+1) (by rw[Nat.pow_succ] at h;omega) (by omega) (by omega) (by omega),Zbm hn];congr 1;omega
theorem rclass_l1 {t:Nat} (ht:t≤64):∀ (m i:Nat),i+m=cls t→Z1m.l1 (t:Int) (i:Int)=some ((cls t:Nat):Int):=by
 intro m
 induction m with
 | zero =>
  intro i h;have:=le_wid ht;have:=Z9f t;rw[Z1m.l1,Z69 rfl (Zbj (by omega)),sb,if_neg (by rw[show i=cls t by omega];simp;omega),show i=cls t by omega]
 | succ m ih =>
  intro i h;have:=Z9f t;have:=wid_lt (k:=t) (i:=i) (by omega);rw[Z1m.l1,Z69 rfl (Zbj (by omega)),sb,if_pos (by simp;omega),Z8 (by omega) (by omega)];exact ih (i+1) (by omega)
theorem rclass {n:Nat} (hn:n<18446744073709551616):Z1m.f (n:Int)=some (((cls (blen n):Nat):Int),((wid (cls (blen n)):Nat):Int)):=by
 unfold Z1m.f;rw[rclass_l0 64 n 0 (by simpa using hn) (by omega) (by omega) hn,sb,Int.zero_add,show Z1m.l1 ((blen n:Nat):Int) 0=_ from rclass_l1 (blen64 hn) (cls (blen n)) 0 (by omega),sb,Z69 rfl (Zbj (Z9f _)),sb]
theorem rcount_l0 (n:Int) (t:Int×Int) (k:Nat) (ht:t.1=(k:Int)) (hk:k<100):∀ (m:Nat) (a:List Bool) (i:Int),i=((k-m:Nat):Int)→m≤k→a.length+m<1000→Zz.l0 n t (strB a) i=some (strB (a++List.replicate m true)):=by
 intro m
 induction m with
 | zero=>intro a i hi hm hl;rw[Zz.l0,if_neg (by simp;omega)];simp
 | succ m ih =>
  intro a i hi hm hl;have e1:(⟨#[49]⟩:ByteArray)=strB [true]:=rfl;rw[Zz.l0,if_pos (by simp;omega),e1,chkB (by rw[Zu,Zu];simp;omega),Z8 (by omega) (by omega),← Z0p,ih _ (i+1) (by omega) (by omega) (by simp;omega),List.replicate_succ];simp
theorem Z86 {n:Nat} (hn:n<18446744073709551616):Zz.f (n:Int)=some (strB (cnt2 n)):=by
 have hc:=Z9f (blen n);have hw:=wid_le (cls (blen n));have e0:(⟨#[48]⟩:ByteArray)=strB [false]:=rfl;unfold Zz.f;rw[rclass hn,sb,← strB_nil,rcount_l0 _ (((cls (blen n):Nat):Int),((wid (cls (blen n)):Nat):Int)) (cls (blen n)) rfl (by omega) (cls (blen n)) [] 0 (by omega) (by omega) (by simp;omega),sb,List.nil_append,cnt2];dsimp only;rw[e0];by_cases h6:cls (blen n)<6
 ·rw[if_pos (by simp;omega),chkB (by rw[Zu       ,Zu       ];simp;omega),sb,rput hw hn,sb,← Z0p        ,chkB (by rw[Zu       ,Zu       ,Z4v   ];simp;omega),← Z0p        ,if_pos h6]
  simp
 ·rw[if_neg (by simp;omega),sb,rput hw hn,sb,chkB (by rw[Zu       ,Zu       ,Z4v   ];simp;omega),← Z0p        ,if_neg h6]
  simp
theorem rbytes_l1 (a:ByteArray) (q:List Int) (i:Nat) (hi:i<1000000000000):∀ (m:Nat) (p k:Int),m≤i % 8→k=((i % 8-m:Nat):Int)→p=((2 ^ (7-i % 8+m):Nat):Int)→Z1n.l1 a (i:Int) q p k=some ((2 ^ (7-i % 8):Nat):Int):=by
 intro m;have ht:Int.tmod (i:Int) 8=((i % 8:Nat):Int):=by rw[Int.tmod_eq_emod_of_nonneg (by omega)];omega
 induction m with
 | zero=>intro p k hm hk hp;rw[Z1n.l1,ht,if_neg (by simp;omega),hp];rfl
 | succ m ih =>
  intro p k hm hk hp;have hpow:2 ^ (7-i % 8+(m+1))=2*2 ^ (7-i % 8+m):=by rw[← Nat.add_assoc,Nat.pow_succ];omega
  have hle:2 ^ (7-i % 8+m)≤2 ^ 7:=Nat.pow_le_pow_right (by omega) (by omega);have hd:Int.tdiv p 2=((2 ^ (7-i % 8+m):Nat):Int):=by rw[hp,hpow,Int.tdiv_eq_ediv_of_nonneg (by omega)];omega
  rw[Z1n.l1,ht,if_pos (by simp;omega),hd,Z8 (by omega) (by omega),Z8 (by omega) (by omega)];exact ih _ _ (by omega) (by omega) rfl
theorem addBit_eq {b:Int} (hb:Byte b) {f:Nat} (hf:f<8) (h:(Z6j b).drop (7-f)=List.replicate (f+1) false):u8.wrap (b+u8.wrap ((2 ^ f:Nat):Int))=Zc1 b f:=by
 have:=addBit_all ⟨b.toNat,by have:=hb.1;have:=hb.2;omega⟩ ⟨f,hf⟩;simp only[Int.toNat_of_nonneg hb.1] at this;rw[← this h]
 norm_cast
theorem laid_tail0 {b:List Int} {x:Int} {f:Nat} {s:List Bool} (h:Laid (b++[x]) f (s++[false])):Byte x∧(Z6j x).drop (7-f)=List.replicate (f+1) false∧b.length=s.length / 8:=by
 have hl:=h.len;have hf:=h.lt;simp only[List.length_append,List.length_singleton] at hl;have hb:=h.bits;rw[Z6g,List.append_assoc,List.singleton_append,← List.replicate_succ,show Z0c [x]=Z6j x by simp[Z0c]] at hb;have hbl:=Z1b b;have e1:Z6j x=s.drop (8*b.length)++List.replicate (f+1) false:=by
  have:=congrArg (List.drop (8*b.length)) hb;rw[List.drop_append_of_le_length (by omega),List.drop_of_length_le (by omega),List.nil_append,List.drop_append_of_le_length (by omega)] at this;exact this
 have hd:(s.drop (8*b.length)).length=7-f:=by rw[List.length_drop];omega
 exact⟨h.byte x (by simp),by rw[e1,← hd,List.drop_left],by omega⟩
theorem rbytes_l0 (s:List Bool) (hl:s.length<900000000000):∀ (suf pre:List Bool) (b:List Int) (f:Nat) (i:Int),s=pre++suf→i=(pre.length:Int)→Laid b f pre →
  ∃ (b':List Int) (f':Nat),Z1n.l0 (strB s) b i=some b'∧Laid b' f' s:=by
 intro suf
 induction suf with
 | nil =>
  intro pre b f i h1 hi h;rw[List.append_nil] at h1;subst h1;rw[Z1n.l0,if_neg (by rw[Zu];simp[hi])];exact⟨b,f,rfl,h⟩
 | cons x suf ih =>
  intro pre b f i h1 hi h;have hlen:s.length=pre.length+(suf.length+1):=by rw[h1];simp
  have ht:Int.tmod i 8=((pre.length % 8:Nat):Int):=by rw[hi,Int.tmod_eq_emod_of_nonneg (by omega)];omega
  have htd:Int.tdiv i 8=((pre.length / 8:Nat):Int):=by rw[hi,Int.tdiv_eq_ediv_of_nonneg (by omega)];omega
  have hbl:=h.len;have hlt:=h.lt;have hx:s[pre.length]? = some x:=by rw[h1];simp
  obtain⟨b0,y,f0,e,h0⟩:∃ (b0:List Int) (y:Int) (f0:Nat),((if(Int.tmod i (8:Int)==(0:Int))=true then((chk ((b.length+[0].length)*1≤140737488355328))>>=fun _=>some (b++[0])) else(some b)):Option (List Int))=some (b0++[y])∧Laid (b0++[y]) f0 (pre++[false]):=by
   by_cases q:f=0
   ·subst q
    rw[ht,if_pos (by simp;omega),chkB (by simp;omega)];exact⟨b,0,7,rfl,h.new0⟩
   ·rw[ht,if_neg (by simp;omega)]
    obtain⟨f0,rfl⟩:∃ f0,f=f0+1:=⟨f-1,by omega⟩
    have h':=h.old0;rcases List.eq_nil_or_concat b with rfl | ⟨b0,y,rfl⟩
    ·simp at hbl
    ·rw[List.concat_eq_append] at *
     exact⟨b0,y,f0,rfl,h'⟩
  have hl0:=h0.len;have hf0:=h0.lt;simp only[List.length_append,List.length_singleton] at hl0;obtain⟨g1,g2,g3⟩:=laid_tail0 h0;rw[Z1n.l0,if_pos (by rw[Zu];simp;omega),e,sb,chkB (by rw[Zu];omega),hi,strB_bt hx,Z8 (n:=(pre.length:Int)+1) (by omega) (by omega)];have e1:s=(pre++[x])++suf:=by simp[h1]
  cases x with
  | false =>
   rw[if_neg (by simp),sb];exact ih (pre++[false]) _ f0 _ e1 (by simp) h0
  | true =>
   rw[hi] at htd;rw[if_pos rfl,rbytes_l1 (strB s) _ pre.length (by omega) (pre.length % 8) 128 0 (by omega) (by omega) (by rw[show 7-pre.length % 8+pre.length % 8=7 by omega];rfl),sb,htd,Z8 (n:=((pre.length / 8:Nat):Int)) (by omega) (by omega),
    Z03 (pre:=b0) (suf:=[]) (x:=y) rfl (by omega),sb,sb,show 7-pre.length % 8=f0 by omega,addBit_eq g1 hf0 g2]
   have e2:(b0++[y]).set (Int.toNat ((pre.length / 8:Nat):Int)) (Zc1 y f0)=b0++[Zc1 y f0]:=by
    rw[Int.toNat_natCast,← g3];simp
   rw[e2];exact ih (pre++[true]) _ f0 _ e1 (by simp) h0.set1
theorem rbytes (s:List Bool) (hl:s.length<900000000000):∃ (b:List Int) (f:Nat),Z1n.f (strB s)=some b∧Laid b f s:=by
 unfold Z1n.f;obtain⟨b,f,e,h⟩:=rbytes_l0 s hl s [] [] 0 0 rfl rfl Laid.nil;rw[e,sb];exact⟨b,f,rfl,h⟩
theorem rtext_l0 (l:List Int) (hl:l.length<10000000) (hb:∀ x∈l,Byte x):∀ (suf pre:List Int) (i:Int),l=pre++suf→i=(pre.length:Int)→Z40.l0 l (strB (Z0c pre)) i=some (strB (Z0c l)):=by
 intro suf
 induction suf with
 | nil=>intro pre i h1 hi;rw[Z40.l0,if_neg (by rw[h1];simp[hi]),h1,List.append_nil]
 | cons x suf ih =>
  intro pre i h1 hi;have hlen:l.length=pre.length+(suf.length+1):=by rw[h1];simp
  have hx:=hb x (by rw[h1];simp);obtain⟨n,rfl⟩:=Int.eq_ofNat_of_zero_le hx.1;have hn:=hx.2;have hpl:=Z1b pre;rw[Z40.l0,if_pos (by simp;omega),Z03 h1 hi,sb,Z2l (by omega) (by omega),show(8:Int)=((8:Nat):Int) from rfl,rput (by omega) (by omega),sb,chkB (by rw[Zu,Zu,Z4v];omega),Z8 (by omega) (by omega),← Z0p];have:Z0c pre++nb n 8=Z0c (pre++[(n:Int)]):=by rw[Z6g,show Z0c [(n:Int)]=Z6j n by simp[Z0c],bits8_nb];simp
  rw[this];exact ih (pre++[(n:Int)]) (i+1) (by simp[h1]) (by simp;omega)
theorem rtext (l:List Int) (hl:l.length<10000000) (hb:∀ x∈l,Byte x):Z40.f l=some (strB (Z0c l)):=by
 unfold Z40.f;rw[← strB_nil,show([]:List Bool)=Z0c [] from rfl,rtext_l0 l hl hb l [] 0 rfl rfl,sb]
theorem Zfd:∀ (l:List Int) (q r:Nat),r<8→(Z0c l)[8*q+r]? = (l[q]?).bind fun x=>(Z6j x)[r]?
 | [],q,r,h=>by simp[Z0c]
 | x::l,0,r,h=>by
  rw[Z9b,List.getElem?_append_left (by rw[Z8s];omega)];simp
 | x::l,q+1,r,h=>by
  rw[Z9b,List.getElem?_append_right (by rw[Z8s];omega),Z8s,show 8*(q+1)+r-8=8*q+r by omega,Zfd l q r h];simp
structure Src (b:List Int):Prop where
 byte:∀ x∈b,Byte x
 len:b.length<100000000000
variable {b:List Int}
theorem Zdu (hb:Src b) {a:Nat} {x:Bool} (h:(Z0c b)[a]? = some x):Z08.f b (a:Int) 0=some (x,((a+1:Nat):Int),0):=by
 have hl:=hb.len;have ha:a<8*b.length:=by rw[← Z1b];exact(List.getElem?_eq_some_iff.1 h).1
 unfold Z08.f;have htm:Int.tmod (a:Int) 8=((a % 8:Nat):Int):=by rw[Int.tmod_eq_emod_of_nonneg (by omega)];omega
 have htd:Int.tdiv (a:Int) 8=((a / 8:Nat):Int):=by rw[Int.tdiv_eq_ediv_of_nonneg (by omega)];omega
 have hq:a / 8<b.length:=by omega
 have hx:=Zfd b (a / 8) (a % 8) (by omega);rw[show 8*(a / 8)+a % 8=a by omega,h,List.getElem?_eq_getElem hq,Option.bind_some] at hx;have hy:=hb.byte _ (List.getElem_mem hq);have hg:=getBit_eq hy (f:=7-a % 8) (by omega);rw[show 7-(7-a % 8)=a % 8 by omega,← hx] at hg;have hg':=Option.some.inj hg;rw[if_neg (by simp),Z8 (by omega) (by omega),sb,if_neg (by simp;omega),htd,Z8 (n:=((a / 8:Nat):Int)) (by omega) (by omega),Z69 rfl (List.getElem?_eq_getElem hq),sb,htm,Z2l (n:=((a % 8:Nat):Int)) (by omega) (by omega),
  Z2l (n:=(7:Int)-((a % 8:Nat):Int)) (by omega) (by omega),chkB (by omega),show Int.toNat ((7:Int)-((a % 8:Nat):Int))=7-a % 8 by omega,Z8 (n:=(a:Int)+1) (by omega) (by omega)]
 rw[getBit] at hg';rw[hg'];rfl
theorem rbit_end (hb:Src b) {a:Nat} (h:8*b.length≤a):Z08.f b (a:Int) 0=some (false,(a:Int),7):=by
 have hl:=hb.len;unfold Z08.f Z09.f;rw[if_neg (by simp),Z8 (by omega) (by omega),sb,if_pos (by simp;omega),if_pos (by simp),sb,sb]
theorem rbit_bad {a e:Int} (h:e≠0):Z08.f b a e=some (false,a,e):=by
 unfold Z08.f Z09.f;rw[if_pos (by simpa using h),sb,if_pos rfl,if_neg (by simpa using h),sb,sb]
theorem rfail0 {a e:Int}:Z09.f b a 0 e=some e:=by unfold Z09.f;rw[if_pos (by simp),sb]
theorem clamp {k:Nat} (hk:k≤64):(if(if(64:Int)<(k:Int) then(64:Int) else(k:Int))>(0:Int) then(if(64:Int)<(k:Int) then(64:Int) else(k:Int)) else(0:Int))=(k:Int):=by
 by_cases q:(64:Int)<(k:Int)
 ·omega
 ·rw[if_neg q];by_cases q2:(k:Int)>0
  ·rw[if_pos q2]
  ·rw[if_neg q2];omega
theorem get_bad_l0 (k:Nat) (hk:k≤64) {a e:Int} (he:e≠0):∀ (m:Nat) (n i:Int),i=((k-m:Nat):Int)→m≤k→∃ n',Zm.l0 b (k:Int) a e n i=some (a,e,n'):=by
 intro m
 induction m with
 | zero=>intro n i hi hm;rw[Zm.l0,clamp hk,if_neg (by simp;omega)];exact⟨n,rfl⟩
 | succ m ih =>
  intro n i hi hm;rw[Zm.l0,clamp hk,if_pos (by simp;omega),rbit_bad he,sb,if_neg (by simp),sb,Z8 (by omega) (by omega)];exact ih _ _ (by omega) (by omega)
theorem get_l0 (hb:Src b) (k:Nat) (hk:k≤64):∀ (m:Nat) (s:List Bool) (a:Nat) (i:Int),i=((k-m:Nat):Int)→m≤k→s.length=k-m→a≤8*b.length →
  (a+m≤8*b.length∧Zm.l0 b (k:Int) (a:Int) 0 ((val s:Nat):Int) i=some (((a+m:Nat):Int),0,((val (s++((Z0c b).drop a).take m):Nat):Int))) ∨
  (8*b.length<a+m∧∃ n',Zm.l0 b (k:Int) (a:Int) 0 ((val s:Nat):Int) i=some (((8*b.length:Nat):Int),7,n')):=by
 intro m
 induction m with
 | zero =>
  intro s a i hi hm hs ha;rw[Zm.l0,clamp hk,if_neg (by simp;omega)];exact .inl ⟨by omega,by simp⟩
 | succ m ih =>
  intro s a i hi hm hs ha;rw[Zm.l0,clamp hk,if_pos (by simp;omega)];by_cases h:a<8*b.length
  ·have hlt:a<(Z0c    b).length:=by rw[Z1b       ];exact h
   rw[Zdu hb (List.getElem?_eq_getElem hlt),sb,Z8 (by omega) (by omega)];have hv:=val_lt s;have hp:2 ^ s.length≤2 ^ 63:=Nat.pow_le_pow_right (by omega) (by omega);have e1:((if(Z0c b)[a]=true then(some (u64.wrap (((BitVec.toNat (BitVec.ofInt 64 (u64.wrap (((val s:Nat):Int)*2)) ||| BitVec.ofInt 64 (1)):Nat):Int)))) else(some (u64.wrap (((val s:Nat):Int)*2)))):Option Int)=some ((val (s++[(Z0c b)[a]]):Nat):Int):=by
    rw[val_snoc];cases (Z0c b)[a] with
    | true=>rw[if_pos rfl,or_one (by omega) (by omega)];congr 1
    | false=>rw[if_neg (by simp),Z2l (by omega) (by omega)];congr 1;simp;omega
   dsimp only;rw[e1,sb];have e2:s++((Z0c b).drop a).take (m+1)=(s++[(Z0c b)[a]])++((Z0c b).drop (a+1)).take m:=by
    rw[List.drop_eq_getElem_cons hlt,List.take_succ_cons];simp
   rcases ih (s++[(Z0c b)[a]]) (a+1) (i+1) (by omega) (by omega) (by simp;omega) (by omega) with ⟨h1,h2⟩ | ⟨h1,n',h2⟩
   ·exact .inl ⟨by omega,by rw[h2,e2];congr 2;omega⟩
   ·exact .inr ⟨by omega,n',h2⟩
  ·rw[rbit_end hb (by omega),sb,if_neg (by simp),sb,Z8     (by omega) (by omega)]
   obtain⟨n',h2⟩:=get_bad_l0 (b:=b) k hk (a:=(a:Int)) (e:=7) (by omega) m (u64.wrap (((val s:Nat):Int)*2)) (i+1) (by omega) (by omega);exact .inr ⟨by omega,n',by rw[show a=8*b.length by omega] at h2 ⊢;exact h2⟩
theorem get_spec (hb:Src b) {k:Nat} (hk:k≤64) {a:Nat} (ha:a≤8*b.length) :
  (a+k≤8*b.length∧Zm.f b (a:Int) 0 (k:Int)=some (((val (((Z0c b).drop a).take k):Nat):Int),((a+k:Nat):Int),0)) ∨
  (8*b.length<a+k∧Zm.f b (a:Int) 0 (k:Int)=some (0,((8*b.length:Nat):Int),7)):=by
 unfold Zm.f;rcases get_l0 hb k hk k [] a 0 (by omega) (by omega) (by simp) ha with ⟨h1,h2⟩ | ⟨h1,n',h2⟩
 ·left
  refine⟨h1,?_⟩;rw[show Zm.l0 b (k:Int) (a:Int) 0 0 0=_ from h2,sb];dsimp only;rw[if_neg (by simp),List.nil_append]
 ·right
  refine⟨h1,?_⟩;rw[show Zm.l0 b (k:Int) (a:Int) 0 0 0=_ from h2,sb];dsimp only;rw[if_pos (by simp)]
theorem six:i64.wrap (((cl.length:Nat):Int)-1)=6:=by decide
theorem ones_fwd (hb:Src b) (c:Nat) (hc:c≤6) (t:List Bool):∀ (m i a:Nat),i+m=c→(Z0c b).drop a=List.replicate m true++((if c<6 then [false] else [])++t) →
  Zv.l0 b cl (a:Int) 0 (i:Int)=some (((a+m+(if c<6 then 1 else 0):Nat):Int),0,(c:Int)):=by
 intro m
 induction m with
 | zero =>
  intro i a hi h;rw[Zv.l0,six];by_cases h6:c<6
  ·rw[if_pos h6] at h
   have hx:(Z0c b)[a]? = some false:=by
    have:=congrArg (fun l=>l[0]?) h;simpa using this
   rw[if_pos (by simp;omega),Zdu hb hx,sb,sb];dsimp only;rw[if_neg (by simp),if_pos h6,show i=c by omega]
  ·rw[if_neg (by simp;omega),sb]
   dsimp only;rw[if_neg (by simp),if_neg h6,show i=c by omega];rfl
 | succ m ih =>
  intro i a hi h;have hx:(Z0c b)[a]? = some true:=by
   have:=congrArg (fun l=>l[0]?) h;simpa[List.replicate_succ] using this
  have hlt:=(List.getElem?_eq_some_iff.1 hx).1;have hn:(Z0c b).drop (a+1)=List.replicate m true++((if c<6 then [false] else [])++t):=by
   have:=congrArg List.tail h;rw[List.tail_drop,List.replicate_succ,List.cons_append,List.tail_cons] at this;exact this
  rw[Zv.l0,six,if_pos (by simp;omega),Zdu hb hx,sb,sb];dsimp only;rw[if_pos rfl,Z8 (by omega) (by omega)];have:=ih (i+1) (a+1) (by omega) hn;rw[show((i:Int)+1)=((i+1:Nat):Int) by omega,this];congr 2;omega
theorem Zee (hb:Src b) {n:Nat} (hn:n<18446744073709551616) {a:Nat} {t:List Bool} (ha:a≤8*b.length) (h:(Z0c b).drop a=cnt2 n++t) :
  Zv.f b (a:Int) 0=some ((n:Int),((a+(cnt2 n).length:Nat):Int),0):=by
 have hc:=Z9f (blen n);have hlen:=congrArg List.length h;rw[List.length_drop,Z1b,List.length_append] at hlen;rw[cnt2,List.append_assoc,List.append_assoc] at h;unfold Zv.f Z38.f;rw[sb,show Zv.l0 b cl (a:Int) 0 0=_ from ones_fwd hb (cls (blen n)) (by omega) _ (cls (blen n)) 0 a (by omega) h,sb];dsimp only;rw[Z69 rfl (Zbj hc),sb];generalize hp:a+cls (blen n)+(if cls (blen n)<6 then 1 else 0)=p;have hcl:(cnt2 n).length=cls (blen n)+(if cls (blen n)<6 then 1 else 0)+wid (cls (blen n)):=by
  rw[cnt2,List.length_append,List.length_append,List.length_replicate,Z4v];split<;>simp<;>omega
 have hd:(Z0c b).drop p=nb n (wid (cls (blen n)))++t:=by
  have:=congrArg (List.drop (cls (blen n)+(if cls (blen n)<6 then 1 else 0))) h;rw[List.drop_drop,← Nat.add_assoc,hp,← List.append_assoc,List.drop_left' (by rw[List.length_append,List.length_replicate];split<;>simp)] at this;exact this
 have hpa:p+wid (cls (blen n))=a+(cnt2 n).length:=by omega
 have hmod:n % 2 ^ wid (cls (blen n))=n:=Nat.mod_eq_of_lt (blen_le.2 (le_wid (blen64 hn)));rcases get_spec hb (wid_le (cls (blen n))) (a:=p) (by omega) with ⟨_,h2⟩ | ⟨h1,_⟩
 case inr=>omega
 rw[hd,List.take_left' (Z4v ..),val_nb,hmod] at h2;rw[h2,sb];dsimp only;by_cases h0:cls (blen n)=0
 ·rw[if_neg (by simp[h0]),sb,if_neg (by simp),sb,if_neg (by simp),hpa]
 ·rw[if_pos (by simp;omega),long_eq hn,sb,Z8 (by omega) (by omega),Z69 (k:=cls (blen n)-1) (by omega) (Zbj (by omega)),sb,sb,
   if_neg (by have:=wid_lt (k:=blen n) (i:=cls (blen n)-1) (by omega);simp;omega),sb,if_neg (by simp),hpa]
theorem Z3r (hb:Src b) {n m:Nat} (hn:n≤m) (hm:m<9223372036854775808) {a:Nat} {t:List Bool} (ha:a≤8*b.length) (h:(Z0c b).drop a=cnt2 n++t) :
  Zb.f b (a:Int) 0 (m:Int)=some ((n:Int),((a+(cnt2 n).length:Nat):Int),0):=by
 unfold Zb.f;rw[Zee hb (by omega) ha h,sb,if_neg (by simp),Z2l (by omega) (by omega),sb,if_neg (by simp;omega),Z8 (by omega) (by omega)]
end Go.Proofs.YtpoihfcehejgfaaGreat.PvGS1
namespace Go.Proofs.YtpoihfcehejgfaaGreat.PvGS1
open Go Go.Pv Go.Pv.GS Go.IntKind
def zig (a:Int):Nat:=if 0≤a then(2*a).toNat else(-2*a-1).toNat
theorem zig_lt {a:Int} (h:I64 a):zig a<18446744073709551616:=by unfold zig;split<;>omega
def intB (a:Int):List Bool:=cnt2 (zig a)
theorem Z5a (a:Int):(intB a).length≤71:=Z0l _
theorem Z54 {n:Nat} (h:n<18446744073709551616):(BitVec.ofInt 64 (n:Int)).toNat=n:=by
 rw[BitVec.ofInt_natCast,BitVec.toNat_ofNat];exact Nat.mod_eq_of_lt h
theorem zig_val {a:Int} (h:I64 a):u64.wrap (((BitVec.toNat (BitVec.ofInt 64 (u64.wrap (i64.wrap (a*2))) ^^^ BitVec.ofInt 64 (u64.wrap (Int.fdiv a 9223372036854775808))):Nat):Int))=(zig a:Int):=by
 have e1:u64.wrap (i64.wrap (a*2))=u64.wrap (a*2):=by simp only[Z6a,Z71];omega
 rw[e1];by_cases h0:0≤a
 ·have e2:Int.fdiv a 9223372036854775808=0:=by rw[Int.fdiv_eq_ediv_of_nonneg _ (by omega)];omega
  have e3:u64.wrap (a*2)=((2*a).toNat:Int):=by rw[Z2l (by omega) (by omega)];omega
  have e4:BitVec.ofInt 64 (u64.wrap 0)=0#64:=by decide
  rw[e2,e4,BitVec.xor_zero,e3,Z54 (by omega),Z2l (by omega) (by omega),zig,if_pos h0]
 ·have e2:Int.fdiv a 9223372036854775808 = -1:=by rw[Int.fdiv_eq_ediv_of_nonneg _ (by omega)];omega
  have e3:u64.wrap (a*2)=((18446744073709551616+2*a).toNat:Int):=by rw[Z6a];omega
  have e4:BitVec.ofInt 64 (u64.wrap (-1))=BitVec.allOnes 64:=by decide
  rw[e2,e4,BitVec.xor_allOnes,BitVec.toNat_not,e3,Z54 (by omega),zig,if_neg h0,Z2l (by omega) (by omega)];omega
theorem rzig {a:Int} (h:I64 a):Z8o.f a=some (zig a:Int):=by
 unfold Z8o.f zig;by_cases h0:0≤a
 ·rw[if_pos (by simpa using h0),if_pos h0]
  congr 1;simp only[Z6a];omega
 ·rw[if_neg (by simpa using h0),if_neg h0]
  congr 1;simp only[Z6a,Z71];omega
theorem rint {a:Int} (h:I64 a):Z4f.f a=some (strB (intB a)):=by
 unfold Z4f.f;rw[rzig h,sb,Z86 (zig_lt h),sb];rfl
theorem wint {b:List Int} {f:Nat} {s:List Bool} (h:Laid b f s) (hl:s.length<800000000000) {a:Int} (ha:I64 a) :
  ∃ (b':List Int) (f':Nat),Z0j.f b (f:Int) a=some (b',(f':Int))∧Laid b' f' (s++intB a):=by
 unfold Z0j.f Z9s.f;rw[sb,zig_val ha];obtain⟨b',f',e,h'⟩:=Z6k h hl (n:=(zig a:Int)) (by omega) (by have:=zig_lt ha;omega);rw[e,sb];exact⟨b',f',rfl,by rw[Int.toNat_natCast] at h';exact h'⟩
def zag (n:Nat):Int:=if n % 2=0 then((n / 2:Nat):Int) else -((n / 2:Nat):Int)-1
theorem zag_zig {a:Int} (h:I64 a):zag (zig a)=a:=by
 unfold zag zig;split<;>split<;>omega
theorem and_one (n:Nat) (h:n<18446744073709551616):(BitVec.toNat (BitVec.ofInt 64 (n:Int) &&& BitVec.ofInt 64 1):Nat)=n % 2:=by
 rw[BitVec.toNat_and,Z54 h,show(BitVec.ofInt 64 1).toNat=1 by decide,Nat.and_one_is_mod]
theorem zag_val {n:Nat} (h:n<18446744073709551616):i64.wrap (((BitVec.toNat (BitVec.ofInt 64 (i64.wrap (Int.fdiv (n:Int) 2)) ^^^ BitVec.ofInt 64 (i64.wrap (0-(i64.wrap (u64.wrap (((BitVec.toNat (BitVec.ofInt 64 (n:Int) &&& BitVec.ofInt 64 (1:Int)):Nat):Int))))))):Nat):Int))=zag n:=by
 have e0:Int.fdiv (n:Int) 2=((n / 2:Nat):Int):=by rw[Int.fdiv_eq_ediv_of_nonneg _ (by omega)];omega
 rw[and_one n h,e0,Z8 (n:=((n / 2:Nat):Int)) (by omega) (by omega)];rcases Nat.mod_two_eq_zero_or_one n with h2 | h2
 ·have e4:BitVec.ofInt 64 (i64.wrap (0-(i64.wrap (u64.wrap ((0:Nat):Int)))))=0#64:=by decide
  rw[h2,e4,BitVec.xor_zero,Z54 (by omega),Z8 (by omega) (by omega),zag,if_pos h2]
 ·have e4:BitVec.ofInt 64 (i64.wrap (0-(i64.wrap (u64.wrap ((1:Nat):Int)))))=BitVec.allOnes 64:=by decide
  rw[h2,e4,BitVec.xor_allOnes,BitVec.toNat_not,Z54 (by omega),zag,if_neg (by omega),Z71];omega
variable {b:List Int}
theorem Ze6 (hb:Src b) {x:Int} (hx:I64 x) {a:Nat} {t:List Bool} (ha:a≤8*b.length) (h:(Z0c b).drop a=intB x++t) :
  Z0k.f b (a:Int) 0=some (x,((a+(intB x).length:Nat):Int),0):=by
 unfold Z0k.f Z9t.f;rw[Zee hb (zig_lt hx) ha h,sb,sb];dsimp only;rw[zag_val (zig_lt hx),zag_zig hx];rfl
end Go.Proofs.YtpoihfcehejgfaaGreat.PvGS1
namespace Go.Proofs.YtpoihfcehejgfaaGreat.PvGS1
open Go Go.Pv Go.Pv.GS Go.IntKind
def spB:Bool→List Z2k→List Bool
 | _,[]=>[]
 | true,s::r=>cnt2 (s.f1-1).toNat++spB false r
 | false,s::r=>cnt2 (s.f0-1).toNat++(cnt2 (s.f1-1).toNat++spB false r)
def lyR (f:Int):List Z2k→List Bool
 | []=>[]
 | s::r=>intB f++spB true (s::r)
def lyB (L:Zf):List Bool:=cnt2 L.f1.length++lyR L.f0 L.f1
def RSp:Bool→List Z2k→Prop
 | _,[]=>True
 | true,s::r=>s.f0=0∧1≤s.f1∧s.f1≤512∧RSp false r
 | false,s::r=>1≤s.f0∧s.f0≤524288∧1≤s.f1∧s.f1≤512∧RSp false r
theorem RSp.len {f:Bool} {s:Z2k} {r:List Z2k} (h:RSp f (s::r)):1≤s.f1∧s.f1≤512∧RSp false r:=by
 cases f
 ·exact h.2.2
 ·exact h.2
def Ids (l:List Int):Prop:=Inc l∧∀ i∈l,-262144≤i∧i≤262144
theorem Ids.sm {l:List Int} (h:Ids l):Sm l:=fun i hi=>by have:=h.2 i hi;omega
theorem runs_rsp:∀ (l:List Int) (p n off:Int) (f:Bool),1≤n→n+l.length≤512→Inc (p::l) → -262144≤p→(∀ i∈l,i≤262144)→(f=true→off=0)→(f=false→1≤off∧off≤524288)→RSp f (runs p n off l)
 | [],p,n,off,f,h1,h2,_,_,_,ht,hf=>by
  simp at h2;rw[runs];cases f
  ·exact⟨(hf rfl).1,(hf rfl).2,h1,h2,trivial⟩
  ·exact⟨ht rfl,h1,h2,trivial⟩
 | i::l,p,n,off,f,h1,h2,hi,hp,hu,ht,hf=>by
  simp only[List.length_cons] at h2;have q:=hi.cons;have hpi:=q.1 i (by simp);have hui:=hu i (by simp);rw[runs];by_cases c:p+1=i
  ·rw[if_pos c]
   exact runs_rsp l i (n+1) off f (by omega) (by omega) q.2 (by omega) (fun j hj=>hu j (by simp[hj])) ht hf
  ·rw[if_neg c]
   have r:=runs_rsp l i 1 (i-p-1) false (by omega) (by omega) q.2 (by omega) (fun j hj=>hu j (by simp[hj])) (by simp) (fun _=>by omega);cases f
   ·exact⟨(hf rfl).1,(hf rfl).2,h1,by show n≤_;omega,r⟩
   ·exact⟨ht rfl,h1,by show n≤_;omega,r⟩
theorem Zc8 {l:List Int} (h:Ids l) (hl:l.length≤512):RSp true (lay l).f1:=by
 cases l with
 | nil=>exact trivial
 | cons i l =>
  simp only[List.length_cons] at hl;exact runs_rsp l i 1 0 true (by omega) (by omega) h.1 (h.2 i (by simp)).1 (fun j hj=>(h.2 j (by simp[hj])).2) (fun _=>rfl) (by simp)
theorem Z4w {l:List Int}:(lay l).f1.length≤l.length:=by
 cases l with
 | nil=>simp[lay]
 | cons i l=>have:=Zd9 l i 1 0;simp only[lay,List.length_cons];exact this
theorem Zf4 {l:List Int} (h:Ids l) : -262144≤(lay l).f0∧(lay l).f0≤262144:=by
 cases l with
 | nil=>simp[lay]
 | cons i l=>exact h.2 i (by simp)
theorem Ze4 (l:List Int):(lay l).f1=[]↔l=[]:=by
 cases l with
 | nil=>simp[lay]
 | cons i l =>
  simp only[lay];constructor
  ·intro h
   exfalso;cases l with
   | nil=>simp[runs] at h
   | cons j l =>
    have:∀ (l:List Int) (p n off:Int),runs p n off l≠[]:=by
     intro l
     induction l with
     | nil=>intro p n off;simp[runs]
     | cons x l ih=>intro p n off;rw[runs];split;exact ih _ _ _;simp
    exact this _ _ _ _ h
  ·simp
theorem spB_len:∀ (r:List Z2k) (f:Bool),(spB f r).length≤142*r.length
 | [],f=>by cases f<;>simp[spB]
 | s::r,f=>by
  have:=spB_len r false;have:=Z0l (s.f0-1).toNat;have:=Z0l (s.f1-1).toNat;cases f<;>simp only[spB,List.length_append,List.length_cons]<;>omega
theorem Zc5 (L:Zf):(lyB L).length≤142+142*L.f1.length:=by
 unfold lyB;have h1:=Z0l L.f1.length;have h2:=Z5a L.f0;have h3:=spB_len L.f1 true;cases e:L.f1 with
 | nil=>rw[e] at h1;simp only[lyR,List.length_append,List.length_nil] at *;omega
 | cons s r=>rw[e] at h1 h3;simp only[lyR,List.length_append] at *;omega
theorem wspan_l0 (L:Zf) (hl:L.f1.length≤1000):∀ (suf pre:List Z2k) (b:List Int) (f:Nat) (s:List Bool) (i:Int),L.f1=pre++suf→i=(pre.length:Int)→RSp (decide (pre=[])) suf→s.length+142*suf.length<700000000000→Laid b f s →
  ∃ (b':List Int) (f':Nat),Z1q.l0 L b (f:Int) i=some (b',(f':Int))∧Laid b' f' (s++spB (decide (pre=[])) suf):=by
 intro suf
 induction suf with
 | nil =>
  intro pre b f s i h1 hi hR hs h;rw[Z1q.l0,if_neg (by rw[h1];simp[hi])];exact⟨b,f,rfl,by cases (decide (pre=[]))<;>simpa[spB] using h⟩
 | cons x suf ih =>
  intro pre b f s i h1 hi hR hs h;have hlen:L.f1.length=pre.length+(suf.length+1):=by rw[h1];simp
  have hx:=hR.len;have hc1:=Z0l (x.f0-1).toNat;have hc2:=Z0l (x.f1-1).toNat;simp only[List.length_cons] at hs;have hne:¬ (pre++[x]=[]):=by simp
  rw[Z1q.l0,if_pos (by simp;omega),Z03 h1 hi,sb,Z8 (n:=x.f1-1) (by omega) (by omega),Z2l (n:=x.f1-1) (by omega) (by omega),Z8 (n:=i+1) (by omega) (by omega)];rcases List.eq_nil_or_concat pre with rfl | ⟨P,p,rfl⟩
  ·rw[if_neg (by simp[hi]),sb]
   dsimp only;obtain⟨b1,f1,e1,h1'⟩:=Z6k h (by omega) (n:=x.f1-1) (by omega) (by omega);rw[e1,sb];obtain⟨b2,f2,e2,h2'⟩:=ih [x] b1 f1 _ (i+1) (by simp[h1]) (by simp[hi]) (by simpa using hx.2.2) (by simp only[List.length_append];omega) h1';exact⟨b2,f2,e2,by simpa[spB] using h2'⟩
  ·simp only[List.concat_eq_append] at *
   have hd:decide (P++[p]=([]:List Z2k))=false:=by simp
   rw[hd] at hR ⊢;obtain⟨q1,q2,_⟩:=hR;rw[if_pos (by simp at hi ⊢;omega),Z8 (n:=x.f0-1) (by omega) (by omega),Z2l (n:=x.f0-1) (by omega) (by omega)];obtain⟨b1,f1,e1,h1'⟩:=Z6k h (by omega) (n:=x.f0-1) (by omega) (by omega);obtain⟨b2,f2,e2,h2'⟩:=Z6k h1' (by simp only[List.length_append];omega) (n:=x.f1-1) (by omega) (by omega);rw[e1,sb,sb];dsimp only;rw[e2,sb];obtain⟨b3,f3,e3,h3'⟩:=ih (P++[p]++[x]) b2 f2 _ (i+1) (by simp[h1]) (by simp at hi ⊢;omega) (by simpa using hx.2.2) (by simp only[List.length_append];omega) h2';exact⟨b3,f3,e3,by simpa[spB] using h3'⟩
theorem wspan (L:Zf) (hl:L.f1.length≤1000) (hR:RSp true L.f1) (hf:I64 L.f0) {b:List Int} {f:Nat} {s:List Bool} (hs:s.length<600000000000) (h:Laid b f s) :
  ∃ (b':List Int) (f':Nat),Z1q.f b (f:Int) L=some (b',(f':Int))∧Laid b' f' (s++lyB L):=by
 unfold Z1q.f;have hc:=Z0l L.f1.length;have hi:=Z5a L.f0;rw[Z2l (by omega) (by omega)];obtain⟨b1,f1,e1,h1⟩:=Z6k h (by omega) (n:=(L.f1.length:Int)) (by omega) (by omega);rw[e1,sb];rw[Int.toNat_natCast] at h1;unfold lyB;cases e:L.f1 with
 | nil=>rw[e] at h1;rw[if_pos (by simp)];exact⟨b1,f1,rfl,by simpa[lyR] using h1⟩
 | cons x r =>
  rw[if_neg (by simp;omega)];obtain⟨b2,f2,e2,h2⟩:=wint h1 (by simp;omega) hf;dsimp only;rw[e2,sb];obtain⟨b3,f3,e3,h3⟩:=wspan_l0 L hl L.f1 [] b2 f2 _ 0 rfl rfl (by simpa using hR) (by simp;omega) h2;dsimp only;rw[e3,sb];refine⟨b3,f3,rfl,?_⟩;rw[e] at h3;simpa[e,lyR] using h3
theorem rspan_l0 (S:List Z2k) (hl:S.length≤1000):∀ (suf pre:List Z2k) (s:List Bool) (i:Int),S=pre++suf→i=(pre.length:Int)→RSp (decide (pre=[])) suf→s.length+142*suf.length<700000000000 →
  Z4a.l0 S (strB s) i=some (strB (s++spB (decide (pre=[])) suf)):=by
 intro suf
 induction suf with
 | nil =>
  intro pre s i h1 hi hR hs;rw[Z4a.l0,if_neg (by rw[h1];simp[hi])];cases (decide (pre=[]))<;>simp[spB]
 | cons x suf ih =>
  intro pre s i h1 hi hR hs;have hlen:S.length=pre.length+(suf.length+1):=by rw[h1];simp
  have hx:=hR.len;have hc1:=Z0l (x.f0-1).toNat;have hc2:=Z0l (x.f1-1).toNat;simp only[List.length_cons] at hs;have q2:Zz.f (x.f1-1)=some (strB (cnt2 (x.f1-1).toNat)):=by
   have:=Z86 (n:=(x.f1-1).toNat) (by omega)
   rwa [Int.toNat_of_nonneg (by omega)] at this
  rw[Z4a.l0,if_pos (by simp;omega),Z03 h1 hi];simp only[sb];rw[Z8 (n:=x.f1-1) (by omega) (by omega),Z2l (n:=x.f1-1) (by omega) (by omega),Z8 (n:=i+1) (by omega) (by omega),q2];simp only[sb];rcases List.eq_nil_or_concat pre with rfl | ⟨P,p,rfl⟩
  ·rw[if_neg (by simp[hi]),sb,chkB (by rw[Zu       ,Zu       ];omega),← Z0p        ,ih [x] _ (i+1) (by simp[h1]) (by simp[hi]) (by simpa using hx.2.2) (by simp only[List.length_append];omega)]
   simp[spB]
  ·simp only[List.concat_eq_append] at *
   have hd:decide (P++[p]=([]:List Z2k))=false:=by simp
   rw[hd] at hR ⊢;obtain⟨q1,q3,_⟩:=hR;have q4:Zz.f (x.f0-1)=some (strB (cnt2 (x.f0-1).toNat)):=by
    have:=Z86 (n:=(x.f0-1).toNat) (by omega)
    rwa [Int.toNat_of_nonneg (by omega)] at this
   rw[if_pos (by simp at hi ⊢;omega),Z8 (n:=x.f0-1) (by omega) (by omega),Z2l (n:=x.f0-1) (by omega) (by omega),q4,sb,chkB (by rw[Zu,Zu];omega),← Z0p,sb,chkB (by rw[Zu,Zu,List.length_append];omega),← Z0p];rw[ih (P++[p]++[x]) _ (i+1) (by simp[h1]) (by simp at hi ⊢;omega) (by simpa using hx.2.2) (by simp only[List.length_append];omega)];simp[spB]
theorem rspan (L:Zf) (hl:L.f1.length≤1000) (hR:RSp true L.f1) (hf:I64 L.f0):Z4a.f L.f0 L.f1=some (strB (lyB L)):=by
 unfold Z4a.f;have hc:=Z0l L.f1.length;have hi:=Z5a L.f0;rw[Z2l (by omega) (by omega),Z86 (by omega),sb];unfold lyB;cases e:L.f1 with
 | nil=>rw[if_pos (by simp)];simp[lyR]
 | cons x r =>
  rw[if_neg (by simp;omega),rint hf,sb,chkB (by rw[Zu,Zu,← e];omega),← Z0p,← e];rw[rspan_l0 L.f1 hl L.f1 [] _ 0 rfl rfl (by simpa using hR) (by simp;omega),sb,e];simp[lyR]
def more (p:Int):List Int→Nat
 | []=>0
 | i::l=>if p+1=i then more i l+1 else 0
theorem more_le:∀ (l:List Int) (p:Int),more p l≤l.length
 | [],_=>by simp[more]
 | i::l,p=>by rw[more];split;have:=more_le l i;simp;omega;simp
theorem more_take:∀ (l:List Int) (p:Int),l.take (more p l)=seqI (p+1) (more p l)
 | [],_=>by simp[more,seqI]
 | i::l,p=>by
  rw[more];split
  ·rename_i c
   rw[List.take_succ_cons,more_take l i,seqI,c]
  ·simp[seqI]
theorem runs_more:∀ (l:List Int) (p n off:Int),runs p n off l=⟨off,n+more p l⟩::(match l.drop (more p l) with
  | []=>[]
  | j::r=>runs j 1 (j-(p+more p l)-1) r)
 | [],p,n,off=>by simp[runs,more]
 | i::l,p,n,off=>by
  rw[runs,more];by_cases c:p+1=i
  ·rw[if_pos c,if_pos c,runs_more l i (n+1) off,List.drop_succ_cons]
   rw[show n+1+(more i l:Int)=n+((more i l+1:Nat):Int) by omega];congr 1;cases l.drop (more i l) with
   | nil=>rfl
   | cons j r=>simp only;congr 1;omega
  ·rw[if_neg c,if_neg c];simp
theorem rof_l1 (l:List Int) (hl:l.length<1000000) (hm:Sm l) (o:List Z2k):∀ (suf P C:List Int) (x i n:Int),l=P++(x::C)++suf→i=(P.length:Int)→n=(C.length:Int)+1 →
  Z36.l1 l o i n=some (n+more (x+n-1) suf):=by
 intro suf
 induction suf with
 | nil =>
  intro P C x i n h1 hi hn;have hlen:l.length=P.length+(C.length+1):=by rw[h1];simp
  rw[Z36.l1,Z8 (n:=i+n) (by omega) (by omega),if_neg (by simp;omega),sb,if_neg (by simp)];simp[more]
 | cons y suf ih =>
  intro P C x i n h1 hi hn;have hlen:l.length=P.length+(C.length+1+(suf.length+1)):=by rw[h1];simp;omega
  have sx:=hm x (by rw[h1];simp);have h2:l=(P++x::C)++y::suf:=by simp[h1]
  have h3:l=P++x::(C++y::suf):=by simp[h1]
  rw[Z36.l1,Z8 (n:=i+n) (by omega) (by omega),if_pos (by simp;omega),Z03 h2 (by simp;omega),sb,Z03 h3 hi,sb,sb,Z8 (n:=x+n) (by omega) (by omega),more];by_cases c:x+n-1+1=y
  ·rw[if_pos (by simp;omega),if_pos c,Z8     (n:=n+1) (by omega) (by omega),ih P (C++[y]) x i (n+1) (by simp[h1]) hi (by simp;omega)]
   rw[show x+(n+1)-1=y by omega];congr 1;omega
  ·rw[if_neg (by simp;omega),if_neg c];simp
theorem rof_l0 (l:List Int) (hl:l.length<1000000) (hm:Sm l):∀ (k:Nat) (suf P:List Int) (x:Int) (O:List Z2k) (i:Int),suf.length≤k→l=P++x::suf→i=(P.length:Int)→O.length≤P.length →
  Z36.l0 l O i=some (O++runs x 1 (match P.getLast? with
   | none=>0
   | some q=>x-q-1) suf):=by
 intro k
 induction k with
 | zero =>
  intro suf P x O i hk h1 hi hO;have hs:suf=[]:=List.length_eq_zero_iff.1 (by omega);subst hs;have hlen:l.length=P.length+1:=by rw[h1];simp
  have hoff:((if(decide (i>(0:Int)))=true then((at? l i)>>=fun b5058=>(at? l (i64.wrap (i-(1:Int))))>>=fun b5061=>some (i64.wrap ((i64.wrap (b5058-b5061))-(1:Int)))) else(some 0)):Option (Int))=some (match P.getLast? with | none=>0 | some q=>x-q-1):=by
   rcases List.eq_nil_or_concat P with rfl | ⟨Q,q,rfl⟩
   ·rw[if_neg (by simp[hi])];rfl
   ·simp only[List.concat_eq_append] at *
    have sx:=hm x (by rw[h1];simp);have sq:=hm q (by rw[h1];simp);rw[if_pos (by simp at hi ⊢;omega),Z03 h1 hi,sb,Z8 (n:=i-1) (by simp at hi;omega) (by simp at hi hlen;omega),Z03 (pre:=Q) (x:=q) (suf:=[x]) (by simp[h1]) (by simp at hi;omega),sb,Z8 (n:=x-q) (by omega) (by omega),Z8 (n:=x-q-1) (by omega) (by omega)];simp
  rw[Z36.l0,if_pos (by simp;omega),rof_l1 l hl hm O [] P [] x i 1 (by simp[h1]) hi (by simp),sb,hoff,sb,chkB (by simp;omega),Z8 (by simp[more];omega) (by simp[more];omega),Z36.l0,if_neg (by simp[more];omega)];simp[runs,more]
 | succ k ih =>
  intro suf P x O i hk h1 hi hO;have hlen:l.length=P.length+(suf.length+1):=by rw[h1];simp
  have hoff:((if(decide (i>(0:Int)))=true then((at? l i)>>=fun b5058=>(at? l (i64.wrap (i-(1:Int))))>>=fun b5061=>some (i64.wrap ((i64.wrap (b5058-b5061))-(1:Int)))) else(some 0)):Option (Int))=some (match P.getLast? with | none=>0 | some q=>x-q-1):=by
   rcases List.eq_nil_or_concat P with rfl | ⟨Q,q,rfl⟩
   ·rw[if_neg (by simp[hi])];rfl
   ·simp only[List.concat_eq_append] at *
    have sx:=hm x (by rw[h1];simp);have sq:=hm q (by rw[h1];simp);rw[if_pos (by simp at hi ⊢;omega),Z03 h1 hi,sb,Z8 (n:=i-1) (by simp at hi;omega) (by simp at hi hlen;omega),Z03 (pre:=Q) (x:=q) (suf:=x::suf) (by simp[h1]) (by simp at hi;omega),sb,Z8 (n:=x-q) (by omega) (by omega),Z8 (n:=x-q-1) (by omega) (by omega)];simp
  have hml:=more_le suf x;have L1:=rof_l1 l hl hm O suf P [] x i 1 (by simp[h1]) hi (by simp);rw[show x+1-1=x by omega] at L1;rw[Z36.l0,if_pos (by simp;omega),L1,sb,hoff,sb,chkB (by simp;omega),Z8 (by omega) (by omega),runs_more];generalize (match P.getLast? with | none=>(0:Int) | some q=>x-q-1)=off;have hsplit:suf=suf.take (more x suf)++suf.drop (more x suf):=(List.take_append_drop _ _).symm;have htk:=more_take suf x;have htl:(suf.take (more x suf)).length=more x suf:=by rw[List.length_take];omega
  cases e:suf.drop (more x suf) with
  | nil =>
   have hd:=congrArg List.length e;rw[List.length_drop] at hd;simp only[List.length_nil] at hd;rw[Z36.l0,if_neg (by simp;omega)]
  | cons j r =>
   have hd:=congrArg List.length e;rw[List.length_drop] at hd;simp only[List.length_cons] at hd;have h4:l=(P++x::suf.take (more x suf))++j::r:=by rw[h1,List.append_assoc,List.cons_append,← e,← hsplit]
   have hlast:(P++x::suf.take (more x suf)).getLast? = some (x+more x suf):=by
    rw[htk,show x::seqI (x+1) (more x suf)=seqI x (more x suf+1) from rfl,seqI_snoc];simp
   rw[ih r (P++x::suf.take (more x suf)) j _ (i+(1+(more x suf:Int))) (by omega) h4 (by simp only[List.length_append,List.length_cons,htl];omega) (by simp only[List.length_append,List.length_cons,List.length_nil,htl];omega),hlast];simp
theorem rof_eq {l:List Int} (hl:l.length<1000000) (hm:Sm l):Z36.f l=some ((lay l).f0,(lay l).f1):=by
 unfold Z36.f;cases l with
 | nil=>rw[if_pos (by simp)];rfl
 | cons x l =>
  rw[if_neg (by simp;omega),rof_l0 (x::l) hl hm l.length l [] x [] 0 (Nat.le_refl _) rfl rfl (by simp),sb,show at? (x::l) 0=some x from rfl,sb];simp[lay]
variable {b:List Int}
theorem err_eq (a e:Int):Zs.f b a e=some ():=rfl
theorem right_l0 (L:Zf) (hl:L.f1.length≤1000):∀ (suf pre:List Z2k) (n i:Int),L.f1=pre++suf→i=(pre.length:Int)→RSp (decide (pre=[])) suf→0≤n→n+slen suf≤512 →
  Z2e.l0 L 512 n i=some (.inr ()):=by
 intro suf
 induction suf with
 | nil=>intro pre n i h1 hi hR h0 hn;rw[Z2e.l0,if_neg (by rw[h1];simp[hi])]
 | cons s suf ih =>
  intro pre n i h1 hi hR h0 hn;have hlen:L.f1.length=pre.length+(suf.length+1):=by rw[h1];simp
  have hs:=hR.len;simp only[slen] at hn;have hb:((if(decide (s.f1<(1:Int)))=true then(some true) else(if(decide (s.f1>(i64.wrap ((512:Int)-n))))=true then(some true) else(if(decide (s.f0<(0:Int)))=true then(some true) else(if(decide (s.f0>(524288:Int)))=true then(some true) else(some (!((i==(0:Int))==(s.f0==(0:Int))))))))):Option (Bool))=some false:=by
   rw[if_neg (by simp;omega),Z8 (by omega) (by omega),if_neg (by simp;omega)];rcases List.eq_nil_or_concat pre with rfl | ⟨P,p,rfl⟩
   ·have h00:s.f0=0:=hR.1
    rw[if_neg (by simp;omega),if_neg (by simp;omega),h00,hi];simp
   ·simp only[List.concat_eq_append] at *
    have hd:decide (P++[p]=([]:List Z2k))=false:=by simp
    rw[hd] at hR;obtain⟨q1,q2,_⟩:=hR;have hi0:¬ i=0:=by simp at hi;omega
    have hs0:¬ s.f0=0:=by omega
    rw[if_neg (by simp;omega),if_neg (by simp;omega),show(i==0)=false by simpa using hi0,show(s.f0==0)=false by simpa using hs0];rfl
  rw[Z2e.l0,if_pos (by simp;omega),Z03 h1 hi,sb,hb,sb,if_neg (by simp),Z8 (n:=n+s.f1) (by omega) (by omega),Z8 (n:=i+1) (by omega) (by omega)];exact ih (pre++[s]) _ (i+1) (by simp[h1]) (by simp;omega) (by simpa using hs.2.2) (by omega) (by omega)
theorem right_lay {l:List Int} (h:Ids l) (hl:l.length≤512):Z2e.f (lay l) 512=some true:=by
 unfold Z2e.f;cases l with
 | nil=>rw[if_pos (by simp[lay])];simp[lay]
 | cons i l =>
  have hn:¬ (lay (i::l)).f1=[]:=by rw[Ze4];simp
  have hf:=Zf4 h;have hsl:=@Z4w (i::l);rw[if_neg (by simpa using hn),right_l0 (lay (i::l)) (by omega) (lay (i::l)).f1 [] 0 0 rfl rfl (by simpa using Zc8 h hl) (by omega) (by rw[slen_lay];omega),sb];dsimp only;rw[if_pos (by simp;omega),sb];simp;omega
theorem tk_l0 (hb:Src b) (F:Int) (x:List Z2k) (hx:x.length≤512) (z:List Bool):∀ (suf pre:List Z2k) (a:Nat) (i:Int),x=pre++suf→i=(pre.length:Int)→RSp (decide (pre=[])) suf→a≤8*b.length →
  (Z0c b).drop a=spB (decide (pre=[])) suf++z→∃ a':Nat,Z19.l0 b 512 F (x.length:Int) (a:Int) 0 pre i=some ((a':Int),0,x)∧a'≤8*b.length∧(Z0c b).drop a'=z:=by
 intro suf
 induction suf with
 | nil =>
  intro pre a i h1 hi hR ha h;rw[List.append_nil] at h1;subst h1;rw[Z19.l0,if_neg (by simp;omega),sb,if_neg (by simp)];exact⟨a,rfl,ha,by cases e:(decide (x=[]))<;>simpa[spB,e] using h⟩
 | cons s suf ih =>
  intro pre a i h1 hi hR ha h;have hlen:x.length=pre.length+(suf.length+1):=by rw[h1];simp
  have hs:=hR.len;have w511:i64.wrap ((512:Int)-1)=((511:Nat):Int):=by decide
  rw[Z19.l0,if_pos (by simp;omega),err_eq,sb,sb,if_pos (by simp),w511];rcases List.eq_nil_or_concat pre with rfl | ⟨P,p,rfl⟩
  ·rw[if_neg (by simp[hi]),sb]
   dsimp only;have h':(Z0c b).drop a=cnt2 (s.f1-1).toNat++(spB false suf++z):=by rw[h];simp[spB]
   have s1:=Z3r hb (n:=(s.f1-1).toNat) (m:=511) (by omega) (by omega) ha h';have l1:=congrArg List.length h';simp only[List.length_drop,Z1b,List.length_append] at l1;have h00:s.f0=0:=hR.1;rw[s1,sb,chkB (by simp)];dsimp only;have es:(⟨0,i64.wrap (1+((s.f1-1).toNat:Int))⟩:Z2k)=s:=by
    rw[Z8 (by omega) (by omega),← h00,show 1+((s.f1-1).toNat:Int)=s.f1 by omega]
   rw[es,Z8 (n:=i+1) (by omega) (by omega),List.nil_append];exact ih [s] _ (i+1) (by simp[h1]) (by simp[hi]) (by simpa using hs.2.2) (by omega) (by rw[← List.drop_drop,h',List.drop_left];simp)
  ·simp only[List.concat_eq_append] at *
   have hd:decide (P++[p]=([]:List Z2k))=false:=by simp
   rw[hd] at hR h;obtain⟨q1,q2,_⟩:=hR;rw[if_pos (by simp at hi ⊢;omega)];have h':(Z0c b).drop a=cnt2 (s.f0-1).toNat++(cnt2 (s.f1-1).toNat++(spB false suf++z)):=by rw[h];simp[spB]
   have s1:=Z3r hb (n:=(s.f0-1).toNat) (m:=524287) (by omega) (by omega) ha h';have l1:=congrArg List.length h';simp only[List.length_drop,Z1b,List.length_append] at l1;have d1:(Z0c b).drop (a+(cnt2 (s.f0-1).toNat).length)=cnt2 (s.f1-1).toNat++(spB false suf++z):=by rw[← List.drop_drop,h',List.drop_left]
   have s2:=Z3r hb (n:=(s.f1-1).toNat) (m:=511) (by omega) (by omega) (by omega) d1;rw[show Zb.f b (a:Int) 0 524287=_ from s1,sb,sb];dsimp only;rw[s2,sb,chkB (by simp at hlen ⊢;omega)];dsimp only;have es:(⟨i64.wrap (1+((s.f0-1).toNat:Int)),i64.wrap (1+((s.f1-1).toNat:Int))⟩:Z2k)=s:=by
    rw[Z8 (by omega) (by omega),Z8 (by omega) (by omega),show 1+((s.f1-1).toNat:Int)=s.f1 by omega,show 1+((s.f0-1).toNat:Int)=s.f0 by omega]
   have hi':i=(P.length:Int)+1:=by rw[hi];simp
   simp only[List.length_append,List.length_singleton] at hlen;rw[es,Z8 (n:=i+1) (by omega) (by omega)];exact ih (P++[p]++[s]) _ (i+1) (by simp[h1]) (by simp at hi ⊢;omega) (by simpa using hs.2.2) (by omega) (by rw[← List.drop_drop,d1,List.drop_left];simp)
theorem tk_fwd (hb:Src b) {l:List Int} (h:Ids l) (hl:l.length≤512) {a:Nat} (ha:a≤8*b.length) (z:List Bool) (hd:(Z0c b).drop a=lyB (lay l)++z) :
  ∃ a':Nat,Z19.f b (a:Int) 0 512=some (lay l,(a':Int),0)∧a'≤8*b.length∧(Z0c b).drop a'=z:=by
 have hsl:=@Z4w l;have hf:=Zf4 h;unfold Z19.f;have hd1:=hd;rw[lyB,List.append_assoc] at hd1;have s1:=Z3r hb (n:=(lay l).f1.length) (m:=512) (by omega) (by omega) ha hd1;have l1:=congrArg List.length hd1;simp only[List.length_drop,Z1b,List.length_append] at l1;have d1:(Z0c b).drop (a+(cnt2 (lay l).f1.length).length)=lyR (lay l).f0 (lay l).f1++z:=by rw[← List.drop_drop,hd1,List.drop_left]
 have hrt:=right_lay h hl;rw[show Zb.f b (a:Int) 0 512=_ from s1,sb];dsimp only;by_cases e:(lay l).f1=[]
 ·have hl0:=(Ze4         l).1 e
  subst hl0;rw[show(lay []).f1=[] from rfl] at *;rw[if_neg (by simp),sb];dsimp only;rw[show((([]:List Z2k).length:Nat):Int)=0 from rfl,Z19.l0,if_neg (by simp),sb,if_neg (by simp),sb];dsimp only;rw[err_eq,sb,if_neg (by simp),if_neg (by simp),show Z2e.f ⟨0,[]⟩ 512=some true from rfl,sb,sb,if_neg (by simp)];exact⟨_,rfl,by omega,by simpa[lyR] using d1⟩
 ·obtain⟨s,r,e2⟩:∃ s r,(lay l).f1=s::r:=by
   cases q:(lay l).f1 with
   | nil=>exact absurd q e
   | cons s r=>exact⟨s,r,rfl⟩
  have hne:(lay l).f1.length=r.length+1:=by rw[e2];simp
  have hly:lyR (lay l).f0 (lay l).f1=intB (lay l).f0++spB true (lay l).f1:=by rw[e2];rfl
  rw[hly,List.append_assoc] at d1;rw[hly,List.length_append] at l1;have hI:I64 (lay l).f0:=by omega
  have s2:=Ze6 hb hI (by omega) d1;have d2:(Z0c b).drop (a+(cnt2 (lay l).f1.length).length+(intB (lay l).f0).length)=spB (decide (([]:List Z2k)=[])) (lay l).f1++z:=by rw[← List.drop_drop,d1,List.drop_left];simp
  rw[if_pos (by simp;omega),s2,sb];dsimp only;rw[if_pos (by simp;omega),show decide ((lay l).f0≤262144)=true by simp;omega,sb,if_pos rfl,sb,sb];dsimp only;have hR:=Zc8 h hl;obtain⟨a',e3,h3,h4⟩:=tk_l0 hb (lay l).f0 (lay l).f1 (by omega) z (lay l).f1 [] _ 0 rfl rfl (by simpa using hR) (by omega) d2;rw[e3,sb];dsimp only;rw[err_eq,sb,if_neg (by simp),if_neg (by simp<;>omega),show Z2e.f ⟨(lay l).f0,(lay l).f1⟩ 512=some true from hrt,sb,sb,if_neg (by simp)];exact⟨a',rfl,h3,h4⟩
structure LOk (L:Zf):Prop where
 sp:SpOk L.f1
 first : -262144≤L.f0∧L.f0≤262144
 len:slen L.f1≤512
theorem cnt_l1 (j:Int) (t x:List Int) (q:Int):∀ (b:List Z0),b.length<1000000000000→∃ r,Z0u.l1 j t x q b=some r∧r.length≤b.length∧(∃ d,b=d++r∧∀ y∈d,y.f0<j)∧(∀ y,r.head? = some y→j≤y.f0):=by
 intro b
 induction b with
 | nil=>intro _;rw[Z0u.l1,if_neg (by simp),sb,if_neg (by simp)];exact⟨[],rfl,by simp,⟨[],rfl,by simp⟩,by simp⟩
 | cons y b ih =>
  intro hl;simp only[List.length_cons] at hl;rw[Z0u.l1,if_pos (by simp<;>omega),show at? (y::b) 0=some y from rfl,sb,sb];by_cases c:y.f0<j
  ·rw[if_pos (by simpa using c),chkB (by simp;omega),tl1]
   obtain⟨r,e,h1,⟨d,h2,h3⟩,h4⟩:=ih (by omega);exact⟨r,e,by simp;omega,⟨y::d,by simp[h2],fun z hz=>by rcases List.mem_cons.1 hz with rfl | hz;exact c;exact h3 z hz⟩,h4⟩
  ·rw[if_neg (by simpa using c)]
   exact⟨y::b,rfl,Nat.le_refl _,⟨[],rfl,by simp⟩,fun z hz=>by simp at hz;subst hz;omega⟩
theorem tot_drop {d r:List Z0} {j:Int} (h:∀ y∈d,y.f0<j) {i:Int} (hi:j≤i):tot (d++r) i=tot r i:=by
 rw[Z3d,tot_zero (fun y hy=>by have:=h y hy;omega)];omega
theorem cnt_l0 (P:List Int) (hP:Inc P) (hl:P.length<1000000):∀ (suf pre:List Int) (r:List Z0) (o:List Int) (i:Int),P=pre++suf→i=(pre.length:Int)→Z3t r→r.length<1000000000000→o.length≤pre.length →
  Z0u.l0 P r o i=some (o++suf.map (tot r)):=by
 intro suf
 induction suf with
 | nil=>intro pre r o i h1 hi hc hr ho;rw[Z0u.l0,if_neg (by rw[h1];simp[hi])];simp
 | cons j suf ih =>
  intro pre r o i h1 hi hc hr ho;have hlen:P.length=pre.length+(suf.length+1):=by rw[h1];simp
  have hj:∀ k∈suf,j<k:=by
   rw[h1] at hP;exact(List.pairwise_cons.1 (List.pairwise_append.1 hP).2.1).1
  rw[Z0u.l0,if_pos (by simp;omega),Z03 h1 hi,sb];obtain⟨r',e,g1,⟨d,g2,g3⟩,g4⟩:=cnt_l1 j P o i r hr;rw[e,sb,Z8 (n:=i+1) (by omega) (by omega)];have hc':Z3t r':=by
   rw[g2] at hc;exact⟨(List.pairwise_append.1 hc.up).2.1,fun y hy=>hc.pos y (by simp[hy])⟩
  have htj:tot r j=tot r' j:=by rw[g2];exact tot_drop g3 (Int.le_refl _)
  have hts:∀ k∈suf,tot r k=tot r' k:=fun k hk=>by rw[g2];exact tot_drop g3 (by have:=hj k hk;omega)
  have fin:∀ v:Int,v=tot r' j→Z0u.l0 P r' (o++[v]) (i+1)=some (o++(j::suf).map (tot r)):=by
   intro v hv;rw[ih (pre++[j]) r' (o++[v]) (i+1) (by simp[h1]) (by simp;omega) hc' (by omega) (by simp;omega),List.map_cons,htj,hv,List.map_congr_left hts];simp
  cases r' with
  | nil =>
   rw[if_neg (by simp),sb,if_neg (by simp),chkB (by simp;omega),sb];exact fin 0 (by simp[tot])
  | cons y r'' =>
   rw[if_pos (by simp<;>omega),show at? (y::r'') 0=some y from rfl,sb,sb];by_cases c:y.f0=j
   ·rw[if_pos (by simpa using c),sb,chkB (by simp;omega),sb]
    exact fin y.f1 (by rw[← c,hc'.tot_head])
   ·rw[if_neg (by simpa using c),chkB (by simp;omega),sb]
    have:=g4 y rfl;exact fin 0 (by rw[hc'.tot_low (by omega)])
theorem counts_eq {P:List Int} (hP:Inc P) (hm:Sm P) (hl:P.length<1000000) {r:List Z0} (hc:Z3t r) (hr:r.length<1000000000000):Z0u.f (lay P) r=some (P.map (tot r)):=by
 unfold Z0u.f;rw[Z96 hm hl,sb,cnt_l0 P hP hl P [] r [] 0 rfl rfl hc hr (by simp),sb];rfl
def bks:List Int→List Int→List Z0
 | i::P,n::c=>if 0<n then⟨i,n⟩::bks P c else bks P c
 | _,_=>[]
theorem bks_mem:∀ (P c:List Int) (y:Z0),y∈bks P c→y.f0∈P∧y.f1∈c∧0<y.f1
 | [],_,y,h=>by simp[bks] at h
 | i::P,[],y,h=>by simp[bks] at h
 | i::P,n::c,y,h=>by
  rw[bks] at h;split at h
  ·rcases List.mem_cons.1 h with rfl | h
   ·rename_i h0;exact⟨by simp,by simp,h0⟩
   ·have:=bks_mem P c y h;exact⟨by simp[this.1],by simp[this.2.1],this.2.2⟩
  ·have:=bks_mem P c y h;exact⟨by simp[this.1],by simp[this.2.1],this.2.2⟩
theorem bks_canon:∀ (P c:List Int),Inc P→Z3t (bks P c)
 | [],_,_=>by simp only[bks];exact⟨List.Pairwise.nil,by simp⟩
 | i::P,[],_=>by simp only[bks];exact⟨List.Pairwise.nil,by simp⟩
 | i::P,n::c,h=>by
  have q:=h.cons;have ih:=bks_canon P c q.2;rw[bks];split
  ·rename_i h0
   exact⟨List.pairwise_cons.2 ⟨fun y hy=>q.1 _ (bks_mem P c y hy).1,ih.up⟩,fun y hy=>by rcases List.mem_cons.1 hy with rfl | hy;exact h0;exact ih.pos y hy⟩
  ·exact ih
theorem bks_tot:∀ (P:List Int) (r:List Z0) (i:Int),Inc P→Nn r→tot (bks P (P.map (tot r))) i=if i∈P then tot r i else 0
 | [],r,i,_,_=>by simp[bks,tot]
 | j::P,r,i,h,hn=>by
  have q:=h.cons;have ih:=bks_tot P r i q.2 hn;have h0:=Z6m hn j;rw[List.map_cons,bks];have hsplit:tot (if 0<tot r j then⟨j,tot r j⟩::bks P (P.map (tot r)) else bks P (P.map (tot r))) i=(if j=i then tot r j else 0)+tot (bks P (P.map (tot r))) i:=by
   by_cases c:0<tot r j
   ·rw[if_pos c,show((⟨j,tot r j⟩:Z0)::bks P (P.map (tot r)))=[(⟨j,tot r j⟩:Z0)]++bks P (P.map (tot r)) from rfl,Z3d,Zam]
   ·rw[if_neg c];split<;>omega
  rw[hsplit,ih];by_cases c:j=i
  ·subst c
   have hj:¬ j∈P:=fun hm=>by have:=q.1 j hm;omega
   rw[if_pos rfl,if_neg hj,if_pos (by simp)];omega
  ·rw[if_neg c]
   by_cases c2:i∈P
   ·rw[if_pos c2,if_pos (by simp[c2])];omega
   ·rw[if_neg c2,if_neg (by simp[c2];exact fun e=>c e.symm)];omega
theorem bks_self {P:List Int} (hP:Inc P) {r:List Z0} (hc:Z3t r) (hs:∀ y∈r,y.f0∈P):bks P (P.map (tot r))=r:=by
 refine Z5f (bks_canon _ _ hP) hc (fun i => ?_);rw[bks_tot P r i hP hc.nn];by_cases h:i∈P
 ·rw[if_pos h]
 ·rw[if_neg h,tot_zero (fun y hy e=>h (by rw[← e];exact hs y hy))]
theorem bk_l0 (P c:List Int) (hl:P.length<1000000):∀ (suf pre:List Int) (cs cp:List Int) (o:List Z0) (i:Int),P=pre++suf→c=cp++cs→cp.length=pre.length→i=(pre.length:Int)→o.length≤pre.length→cs.length=suf.length →
  Z1g.l0 c P o i=some (o++bks suf cs):=by
 intro suf
 induction suf with
 | nil=>intro pre cs cp o i h1 h2 h3 hi ho _;rw[Z1g.l0,if_neg (by rw[h1];simp[hi])];simp[bks]
 | cons j suf ih =>
  intro pre cs cp o i h1 h2 h3 hi ho h4;have hlen:P.length=pre.length+(suf.length+1):=by rw[h1];simp
  cases cs with
  | nil=>simp at h4
  | cons n cs =>
   have hcl:c.length=cp.length+(cs.length+1):=by rw[h2];simp
   have an:=Z03 h2 (i:=i) (by omega);rw[Z1g.l0,if_pos (by simp;omega),Z03 h1 hi,sb,if_pos (by simp;omega),an,sb,sb,Z8 (n:=i+1) (by omega) (by omega),bks];by_cases q:0<n
   ·rw[if_pos (by simpa using q),if_pos q,sb,chkB (by simp;omega),sb,ih (pre++[j]) cs (cp++[n]) _ (i+1) (by simp[h1]) (by simp[h2]) (by simp[h3]) (by simp;omega) (by simp;omega) (by simpa using h4)]
    simp
   ·rw[if_neg (by simpa using q),if_neg q,sb,ih (pre++[j]) cs (cp++[n]) _ (i+1) (by simp[h1]) (by simp[h2]) (by simp[h3]) (by simp;omega) (by simp;omega) (by simpa using h4)]
theorem Zfa {L:Zf} {P:List Int} (hi:Zr.f L=some P) (hl:P.length<1000000) {c:List Int} (hc:c.length=P.length):Z1g.f L c=some (bks P c):=by
 unfold Z1g.f;rw[hi,sb,bk_l0 P c hl P [] c [] [] 0 rfl rfl rfl rfl (by simp) hc,sb];rfl
end Go.Proofs.YtpoihfcehejgfaaGreat.PvGS1
namespace Go.Proofs.YtpoihfcehejgfaaGreat.PvGS1
open Go Go.Pv Go.Pv.GS Go.IntKind
def cnt (l:List Z0):Int:=(l.map (·.f1)).sum
theorem Z15 {l:List Z0} (h:Nn l):0≤cnt l:=Z7s (fun x hx=>by
 obtain⟨b,hb,rfl⟩:=List.mem_map.1 hx;exact h b hb)
theorem Z5k (b:Z0) (l:List Z0):cnt (b::l)=b.f1+cnt l:=by simp[cnt]
theorem Za7 (a b:List Z0):cnt (a++b)=cnt a+cnt b:=by simp[cnt]
theorem total_l1 (a0:List (List Z0)) (x769:Int) (l:List Z0) (hl:l.length<1000000000):∀ (suf pre:List Z0) (acc i:Int),l=pre++suf→i=(pre.length:Int)→U64 acc→(∀ b∈suf,U64 b.f1) →
  Z18.l1 a0 l x769 acc i=some (if acc+cnt suf<18446744073709551616 then .inr (acc+cnt suf) else .inl (0,5)):=by
 intro suf
 induction suf with
 | nil =>
  intro pre acc i h1 hi ha hs;subst h1;rw[Z18.l1,if_neg (by simp[hi])];simp[cnt,ha.2]
 | cons x suf ih =>
  intro pre acc i h1 hi ha hs;have hx:=hs x (by simp);have hs':∀ y∈suf,U64 y.f1:=fun y hy=>hs y (by simp[hy])
  have hnn:0≤cnt suf:=Z15 (fun y hy=>(hs' y hy).1);have hlen:(l.length:Int)=pre.length+(suf.length+1):=by rw[h1];simp
  rw[Z18.l1,if_pos (by simp;omega),Z03 h1 hi,sb,num_add2 ha hx,sb,Z8 (by omega) (by omega),Z5k];by_cases hov:acc+x.f1<18446744073709551616
  ·rw[if_pos hov,if_neg (by simp),ih (pre++[x]) (acc+x.f1) (i+1) (by simp[h1]) (by simp;omega) ⟨by omega,hov⟩ hs',Int.add_assoc]
  ·rw[if_neg hov,if_pos (by simp),if_neg (by omega)]
theorem total_l0 (a0:List (List Z0)) (ha0:a0.length<1000000000):∀ (suf pre:List (List Z0)) (acc i:Int),a0=pre++suf→i=(pre.length:Int)→U64 acc→(∀ l∈suf,l.length<1000000000∧∀ b∈l,U64 b.f1) →
  Z18.l0 a0 acc i=some (if acc+(suf.map cnt).sum<18446744073709551616 then .inr (acc+(suf.map cnt).sum) else .inl (0,5)):=by
 intro suf
 induction suf with
 | nil =>
  intro pre acc i h1 hi ha hs;subst h1;rw[Z18.l0,if_neg (by simp[hi])];simp[ha.2]
 | cons x suf ih =>
  intro pre acc i h1 hi ha hs;have hx:=hs x (by simp);have hs':∀ l∈suf,l.length<1000000000∧∀ b∈l,U64 b.f1:=fun y hy=>hs y (by simp[hy])
  have hx0:0≤cnt x:=Z15 (fun y hy=>(hx.2 y hy).1);have hnn:0≤(suf.map cnt).sum:=Z7s (fun y hy=>by
   obtain⟨l,hl,rfl⟩:=List.mem_map.1 hy;exact Z15 (fun y hy=>((hs' l hl).2 y hy).1))
  have hlen:(a0.length:Int)=pre.length+(suf.length+1):=by rw[h1];simp
  rw[Z18.l0,if_pos (by simp;omega),Z03 h1 hi,sb,total_l1 a0 i x hx.1 x [] acc 0 rfl rfl ha hx.2,sb,Z8 (by omega) (by omega),List.map_cons,List.sum_cons];by_cases hov:acc+cnt x<18446744073709551616
  ·rw[if_pos hov]
   simp only[];rw[ih (pre++[x]) (acc+cnt x) (i+1) (by simp[h1]) (by simp;omega) ⟨by omega,hov⟩ hs',Int.add_assoc]
  ·rw[if_neg hov,if_neg (by omega)]
theorem total3 (p n:List Z0) (z:Int) (hp:p.length<1000000000) (hn:n.length<1000000000) (hpU:∀ b∈p,U64 b.f1) (hnU:∀ b∈n,U64 b.f1) (hz:U64 z) :
  Z18.f [p,n,[(⟨0,z⟩:Z0)]]=some (if cnt p+cnt n+z<18446744073709551616 then(cnt p+cnt n+z,0) else(0,5)):=by
 unfold Z18.f;rw[total_l0 [p,n,[(⟨0,z⟩:Z0)]] (by simp) [p,n,[(⟨0,z⟩:Z0)]] [] 0 0 rfl rfl (by omega) (by
  intro l hl;simp only[List.mem_cons,List.not_mem_nil,or_false] at hl;rcases hl with rfl | rfl | rfl
  ·exact⟨hp,hpU⟩
  ·exact⟨hn,hnU⟩
  ·exact⟨by simp,by simp;exact hz⟩),sb]
 have e:0+(([p,n,[(⟨0,z⟩:Z0)]]:List (List Z0)).map cnt).sum=cnt p+cnt n+z:=by simp[cnt];omega
 rw[e];by_cases h:cnt p+cnt n+z<18446744073709551616
 ·rw[if_pos h,if_pos h]
 ·rw[if_neg h,if_neg h]
theorem right_eq (s:Int):Z0i.f s=some (decide (-4≤s)&&decide (s≤8)):=by
 unfold Z0i.f;rw[ifand];rfl
def Z1j (s:Int):Prop:=-4≤s∧s≤8
instance (s:Int):Decidable (Z1j s):=inferInstanceAs (Decidable (_∧_))
theorem Z7o {s:Int} (h:Z1j s):Z0i.f s=some true:=by rw[right_eq];simp[h.1,h.2]
theorem right_F {s:Int} (h:¬ Z1j s):Z0i.f s=some false:=by rw[right_eq];simp[Z1j] at h ⊢;omega
def stp (s:Int):Int:=2 ^ (8-s).toNat
theorem Z6n (s:Int):0<stp s:=by unfold stp;exact Int.pow_pos (by omega)
theorem stp_le {s:Int} (h:Z1j s):stp s≤4096:=by
 have h1:=h.1;have h2:=h.2;have:s = -4∨s = -3∨s = -2∨s = -1∨s=0∨s=1∨s=2∨s=3∨s=4∨s=5∨s=6∨s=7∨s=8:=by omega
 rcases this with rfl | rfl | rfl | rfl | rfl | rfl | rfl | rfl | rfl | rfl | rfl | rfl | rfl<;>decide
theorem shift_eq {s:Int} (h:Z1j s):min (Int.toNat (u64.wrap (i64.wrap ((8:Int)-s)))) 64=(8-s).toNat:=by
 have h1:=h.1;have h2:=h.2;rw[Z8 (by omega) (by omega),Z2l (by omega) (by omega)];omega
theorem most_T {s:Int} (h:Z1j s):Z4y.f s=some (262144 / stp s):=by
 unfold Z4y.f Z4j.f;rw[Z7o h,sb,if_neg (by simp),sb,chkB (Zd6 _).1,shift_eq h,Int.fdiv_eq_ediv_of_nonneg _ (by exact Int.le_of_lt (Z6n s))];rfl
theorem units_T {s i:Int} (h:Z1j s) (hi : -1000000000000<i∧i<1000000000000):Z2q.f s i=some (i*stp s):=by
 unfold Z2q.f Z4j.f;rw[Z7o h,sb,if_neg (by simp),sb,chkB (Zd6 _).1,shift_eq h];have h1:=Z6n s;have h2:=stp_le h;have h3:i*stp s≤1000000000000*4096:=by
  by_cases h0:0≤i
  ·exact Int.mul_le_mul (by omega) h2 (by omega) (by omega)
  ·have:i*stp s≤0:=Int.mul_nonpos_of_nonpos_of_nonneg (by omega) (by omega);omega
 have h4 : -(1000000000000*4096)≤i*stp s:=by
  by_cases h0:0≤i
  ·have:0≤i*stp s:=Int.mul_nonneg h0 (by omega);omega
  ·have : -i*stp s≤1000000000000*4096:=Int.mul_le_mul (by omega) h2 (by omega) (by omega)
   rw[Int.neg_mul] at this;omega
 show some (i64.wrap (i*stp s))=_;rw[Z8 (by omega) (by omega)]
theorem Zav (h:Zi):Z0f.l0 h 0=((Z04.f h h.f6)>>=fun t=>if(t != (0:Int))=true then some (.inl t) else(Z04.f h h.f7)>>=fun t=>if(t != (0:Int))=true then some (.inl t) else some (.inr ())):=by
 have w1:i64.wrap (0+1)=1:=by decide
 have w2:i64.wrap (1+1)=2:=by decide
 rw[Z0f.l0,if_pos (by decide),chkB (by omega),if_pos (by decide),sb,w1];congr 1;funext t;split
 ·rfl
 ·rw[         Z0f.l0,if_pos (by decide),chkB (by omega),if_neg (by decide),sb,w2]
  congr 1;funext t;split
  ·rfl
  ·rw[Z0f.l0,if_neg (by decide)]
structure Fits (h:Zi):Prop where
 kind:I64 h.f0
 schema:I64 h.f1
 zeroAt:I64 h.f2
 zero:U64 h.f3
 count:U64 h.f4
 sum:I64 h.f5
 pos:∀ b∈h.f6,I64 b.f0∧U64 b.f1
 neg:∀ b∈h.f7,I64 b.f0∧U64 b.f1
theorem fits_of {h:Zi} (r:RHist h):Fits h:=⟨r.r0,r.r1,r.r2,r.r3,r.r4,r.r5,fun b hb=>let q:=r.r6.2 b hb;⟨q.r0,q.r1⟩,fun b hb=>let q:=r.r7.2 b hb;⟨q.r0,q.r1⟩⟩
theorem stp_dvd {s:Int} (h:Z1j s):262144 / stp s*stp s=262144:=by
 have h1:=h.1;have h2:=h.2;have:s = -4∨s = -3∨s = -2∨s = -1∨s=0∨s=1∨s=2∨s=3∨s=4∨s=5∨s=6∨s=7∨s=8:=by omega
 rcases this with rfl | rfl | rfl | rfl | rfl | rfl | rfl | rfl | rfl | rfl | rfl | rfl | rfl<;>decide
def InS (s i:Int):Prop:=-262144<i*stp s∧i*stp s≤262144
instance (s i:Int):Decidable (InS s i):=inferInstanceAs (Decidable (_∧_))
theorem inS_iff {s i:Int} (h:Z1j s):InS s i ↔ -(262144 / stp s)+1≤i∧i≤262144 / stp s:=by
 have hp:=Z6n s;have hd:=stp_dvd h;unfold InS;generalize 262144 / stp s=q at *;generalize stp s=st at *;constructor
 ·rintro⟨h1,h2⟩
  constructor
  ·have : -q*st<i*st:=by rw[Int.neg_mul];omega
   have:=Int.lt_of_mul_lt_mul_right this (Int.le_of_lt hp);omega
  ·have:i*st≤q*st:=by omega
   exact Int.le_of_mul_le_mul_right this hp
 ·rintro⟨h1,h2⟩
  constructor
  ·have:=Int.mul_lt_mul_of_pos_right (show -q<i by omega) hp
   rw[Int.neg_mul] at this;omega
  ·have:=Int.mul_le_mul_of_nonneg_right h2 (Int.le_of_lt hp);omega
theorem Z4e {s i:Int} (hi:InS s i) : -262144<i∧i≤262144:=by
 have hp:=Z6n s;obtain⟨h1,h2⟩:=hi;constructor
 ·by_cases h:i ≤ -262144
  ·have:=Int.mul_le_mul_of_nonneg_right h (Int.le_of_lt hp)
   have h3 : -262144*stp s ≤ -262144*1:=by
    have:=Int.mul_le_mul_of_nonneg_left (show 1≤stp s by omega) (show(0:Int)≤262144 by omega);omega
   omega
  ·omega
 ·by_cases h:262144<i
  ·have:=Int.mul_le_mul_of_nonneg_right (show 262145≤i by omega) (Int.le_of_lt hp)
   have h3:=Int.mul_le_mul_of_nonneg_left (show 1≤stp s by omega) (show(0:Int)≤262145 by omega);omega
  ·omega
theorem in_T {s i:Int} (h:Z1j s):Z65.f s i=some (decide (InS s i)):=by
 have hp:=Z6n s;have hq:0≤262144 / stp s∧262144 / stp s≤262144:=⟨Int.ediv_nonneg (by omega) (by omega),Int.ediv_le_self _ (by omega)⟩
 unfold Z65.f Z5i.f;rw[Z7o h,most_T h];simp only[sb,if_pos];rw[Z8 (n:=0-_) (by omega) (by omega),Z8 (by omega) (by omega),ifand,sb];congr 1;rw[← Bool.decide_and,decide_eq_decide,inS_iff h];constructor<;>intro h<;>constructor<;>omega
theorem low_T {s i:Int} (h:Z1j s) (hi:InS s i):Z52.f s i=some ((i-1)*stp s):=by
 have:=Z4e hi;unfold Z52.f;rw[Z8 (by omega) (by omega),units_T h (by omega)];rfl
theorem units_in {s i:Int} (h:Z1j s) (hi:InS s i):Z2q.f s i=some (i*stp s):=by
 have:=Z4e hi;exact units_T h (by omega)
theorem Z5r (s:Int):Z0w.f s=some (decide (Z1j s)):=by
 unfold Z0w.f;rw[ifand,← Bool.decide_and];rfl
theorem ref_step_l0 (s:Int):∀ (n:Nat) (x i:Int),i≤8→8-i=(n:Int) → -4≤i→0≤x→x*2 ^ n≤4096→Z3k.l0 x i=some (x*2 ^ n):=by
 intro n
 induction n with
 | zero=>intro x i h1 h2 h3 h4 h5;rw[Z3k.l0,if_neg (by simp;omega)];simp
 | succ n ih =>
  intro x i h1 h2 h3 h4 h5;have e:x*2 ^ (n+1)=x*2*2 ^ n:=by rw[Int.pow_succ,Int.mul_assoc,Int.mul_comm 2]
  have hp:(0:Int)<2 ^ n:=Int.pow_pos (by omega);have hle:x*2≤4096:=by
   have:=Int.mul_le_mul_of_nonneg_left (show(1:Int)≤2 ^ n by omega) (show 0≤x*2 by omega);omega
  rw[Z3k.l0,if_pos (by simp;omega),Z8 (n:=x*2) (by omega) (by omega),Z8 (n:=i+1) (by omega) (by omega),ih (x*2) (i+1) (by omega) (by omega) (by omega) (by omega) (by omega),e]
theorem ref_step {s:Int} (h:Z1j s):Z3k.f s=some (stp s):=by
 unfold Z3k.f;have h1:=h.1;have h2:=h.2;rw[ref_step_l0 s (8-s).toNat 1 s h2 (by omega) h1 (by omega) (by rw[Int.one_mul];exact stp_le h)];simp[stp]
theorem Z6c {s i:Int} (h:Z1j s) (hi : -1000000000000<i∧i<1000000000000):Z0v.f s i=some (i*stp s):=by
 unfold Z0v.f;rw[Z5r,sb,if_neg (by simp[h]),ref_step h,sb];have h1:=Z6n s;have h2:=stp_le h;have h3:i*stp s≤1000000000000*4096:=by
  by_cases h0:0≤i
  ·exact Int.mul_le_mul (by omega) h2 (by omega) (by omega)
  ·have:i*stp s≤0:=Int.mul_nonpos_of_nonpos_of_nonneg (by omega) (by omega);omega
 have h4 : -(1000000000000*4096)≤i*stp s:=by
  by_cases h0:0≤i
  ·have:0≤i*stp s:=Int.mul_nonneg h0 (by omega);omega
  ·have : -i*stp s≤1000000000000*4096:=Int.mul_le_mul (by omega) h2 (by omega) (by omega)
   rw[Int.neg_mul] at this;omega
 rw[Z8 (by omega) (by omega)]
theorem ref_in {s i:Int} (h:Z1j s) (hi:I64 i):Z88.f s i=some (decide (InS s i)):=by
 unfold Z88.f;rw[Z5r,sb,if_pos (by simp[h])];by_cases h1:i > -262144
 ·rw[if_pos (by simpa using h1)]
  by_cases h2:i≤262144
  ·rw[if_pos (by simpa using h2),Z6c       h (by omega),sb]
   by_cases h3:i*stp s > -262144
   ·rw[if_pos (by simpa using h3),sb,sb]
    congr 1;rw[decide_eq_decide];exact⟨fun h=>⟨h3,h⟩,fun h=>h.2⟩
   ·rw[if_neg (by simpa using h3),sb]
    have:¬ InS s i:=fun h=>h3 h.1;simp[this]
  ·rw[if_neg (by simpa using h2),sb]
   have:¬ InS s i:=fun h=>by have:=Z4e h;omega
   simp[this]
 ·rw[if_neg (by simpa using h1),sb]
  have:¬ InS s i:=fun h=>by have:=Z4e h;omega
  simp[this]
end Go.Proofs.YtpoihfcehejgfaaGreat.PvGS1
