import Derived.Test.YtpoihfcehejgfaaGreatPxBlockReads20
set_option linter.unusedVariables false
set_option linter.unusedSimpArgs false
namespace Go.Pv
theorem Z4v {k:Nat} (n:Nat):BitVec.ofInt k (n:Int)=BitVec.ofNat k n:=by
 apply BitVec.eq_of_toNat_eq;rw[BitVec.toNat_ofInt,BitVec.toNat_ofNat];have:((2 ^ k:Nat):Int)=(2:Int) ^ k:=by simp
 omega
theorem xorN {k a b:Nat} (ha:a<2 ^ k) (hb:b<2 ^ k):(BitVec.ofInt k (a:Int) ^^^ BitVec.ofInt k (b:Int)).toNat=a ^^^ b:=by
 rw[Z4v,Z4v,BitVec.toNat_xor,BitVec.toNat_ofNat,BitVec.toNat_ofNat,Nat.mod_eq_of_lt ha,Nat.mod_eq_of_lt hb]
theorem w32 {n:Nat} (h:n<4294967296):IntKind.u32.wrap (n:Int)=(n:Int):=by
 have e:IntKind.u32.wrap (n:Int)=(n:Int) % 4294967296:=by simp[IntKind.wrap,IntKind.signed,IntKind.bits]
 rw[e];omega
theorem w8 (n:Nat):IntKind.u8.wrap (n:Int)=((n % 256:Nat):Int):=by
 have e:IntKind.u8.wrap (n:Int)=(n:Int) % 256:=by simp[IntKind.wrap,IntKind.signed,IntKind.bits]
 rw[e];omega
theorem fdivN (n m:Nat):Int.fdiv (n:Int) (m:Int)=((n / m:Nat):Int):=by
 rw[Int.fdiv_eq_ediv_of_nonneg _ (by omega)];simp
theorem Zeq {a b k:Nat} (ha:a<2 ^ k) (hb:b<2 ^ k):a ^^^ b<2 ^ k:=Nat.xor_lt_two_pow ha hb
def stB (c:Nat) (b:Bool):Nat:=(c / 2) ^^^ (if(c.testBit 0 != b)=true then 3988292384 else 0)
theorem stB_lt {c:Nat} (b:Bool) (h:c<2 ^ 32):stB c b<2 ^ 32:=by
 unfold stB;refine Zeq (by omega) ?_;split<;>decide
theorem stB_bit (c:Nat) (b:Bool) (i:Nat):(stB c b).testBit i=(c.testBit (i+1) ^^ ((c.testBit 0 != b)&&Nat.testBit 3988292384 i)):=by
 unfold stB;rw[Nat.testBit_xor,Nat.testBit_div_two];cases h:(c.testBit 0 != b)<;>simp
theorem stB_lin (a b:Nat) (x y:Bool):stB (a ^^^ b) (x ^^ y)=stB a x ^^^ stB b y:=by
 apply Nat.eq_of_testBit_eq;intro i;rw[Nat.testBit_xor,stB_bit,stB_bit,stB_bit,Nat.testBit_xor,Nat.testBit_xor];cases a.testBit (i+1)<;>cases b.testBit (i+1)<;>cases a.testBit 0<;>cases b.testBit 0<;>cases x<;>cases y<;>cases Nat.testBit 3988292384 i<;>rfl
theorem stB_even {c:Nat} (h:c.testBit 0=false):stB c false=c / 2:=by
 unfold stB;rw[h];simp
theorem crcS_eq {c:Nat} (h:c<2 ^ 32):crcS (c:Int)=(stB c false:Int):=by
 have e1:(BitVec.ofInt 32 (c:Int) &&& BitVec.ofInt 32 1).toNat=c % 2:=by
  rw[Z4v,show(1:Int)=((1:Nat):Int) from rfl,Z4v,BitVec.toNat_and,BitVec.toNat_ofNat,BitVec.toNat_ofNat,Nat.mod_eq_of_lt h];exact Nat.and_one_is_mod c
 unfold crcS;rw[e1,w32 (by omega),show(2:Int)=((2:Nat):Int) from rfl,fdivN,show(3988292384:Int)=((3988292384:Nat):Int) from rfl,xorN (by omega) (by decide)];unfold stB;have hb:c.testBit 0=decide (c % 2=1):=by simp[Nat.testBit_zero]
 rw[hb];by_cases h1:c % 2=1
 ·rw[if_pos (by simp[h1]),if_pos (by simp[h1]),w32 (Zeq (k:=32) (by omega) (by decide))]
 ·rw[if_neg (by simp;omega),if_neg (by simp[h1])];simp
def stN:Nat→Nat→Nat
 | 0,c=>c
 | n+1,c=>stN n (stB c false)
theorem stN_lt:∀ (n:Nat) {c:Nat},c<2 ^ 32→stN n c<2 ^ 32
 | 0,_,h=>h
 | n+1,_,h=>stN_lt n (stB_lt _ h)
theorem crcN_eq:∀ (n:Nat) {c:Nat},c<2 ^ 32→crcN n (c:Int)=(stN n c:Int)
 | 0,_,_=>rfl
 | n+1,c,h=>by rw[crcN,crcS_eq h,crcN_eq n (stB_lt _ h)];rfl
theorem stN_lin:∀ (n a b:Nat),stN n (a ^^^ b)=stN n a ^^^ stN n b
 | 0,a,b=>rfl
 | n+1,a,b=>by
  have:=stB_lin a b false false;simp only[Bool.xor_self] at this;rw[stN,stN,stN,this,stN_lin n]
theorem stN_low:∀ (n c:Nat),(∀ i,i<n→c.testBit i=false)→stN n c=c / 2 ^ n
 | 0,c,_=>by simp[stN]
 | n+1,c,h=>by
  rw[stN,stB_even (h 0 (by omega)),stN_low n (c / 2) (fun i hi=>by rw[Nat.testBit_div_two];exact h (i+1) (by omega)),Nat.div_div_eq_div_mul,Nat.pow_succ,Nat.mul_comm]
def prc:Nat→Nat→Nat→Nat
 | 0,c,_=>c
 | n+1,c,x=>prc n (stB c (x.testBit 0)) (x / 2)
theorem prc_eq:∀ (n c x:Nat),x<2 ^ n→prc n c x=stN n (c ^^^ x)
 | 0, c, x, h => by obtain rfl : x = 0 := by omega
                    simp[prc,stN]
 | n+1,c,x,h=>by
  rw[prc,prc_eq n _ _ (by rw[Nat.pow_succ] at h;omega),stN];congr 1;have h1:=stB_lin c x (x.testBit 0) (x.testBit 0);have h2:stB x (x.testBit 0)=x / 2:=by unfold stB;simp
  rw[Bool.xor_self,h2] at h1;exact h1.symm
theorem crcE_eq {i:Nat} (h:i<256):crcE i=(stN 8 i:Int):=by
 unfold crcE;rw[w32 (by omega),crcN_eq 8 (by omega)]
theorem crcT_nat {i:Nat} (h:i<256):crcT.getD i 0=(stN 8 i:Int):=by
 rw[List.getD_eq_getElem?_getD];unfold crcT;rw[List.getElem?_map,List.getElem?_range h];exact crcE_eq h
theorem split8 (y:Nat):y=(y % 256) ^^^ (256*(y / 256)):=by
 apply Nat.eq_of_testBit_eq;intro i;rw[Nat.testBit_xor,show(256:Nat)=2 ^ 8 from rfl,Nat.testBit_mod_two_pow,Nat.testBit_two_pow_mul,Nat.testBit_div_two_pow];by_cases h:i<8
 ·simp[h,show ¬ (8≤i) by omega]
 ·simp[h,show 8≤i by omega,show i-8+8=i by omega]
theorem crcU_eq {c x:Nat} (hc:c<2 ^ 32) (hx:x<256):crcU (c:Int) (x:Int)=(prc 8 c x:Int):=by
 have hI:crcI (c:Int) (x:Int)=(c ^^^ x) % 256:=by
  unfold crcI;rw[w8 c,xorN (k:=8) (by omega) (by omega),w8];have:(c % 256) ^^^ x=(c ^^^ x) % 256:=by
   rw[show(256:Nat)=2 ^ 8 from rfl,Nat.xor_mod_two_pow,Nat.mod_eq_of_lt (show x<2 ^ 8 by omega)]
  rw[this];omega
 have hlt:(c ^^^ x) % 256<256:=Nat.mod_lt _ (by decide);unfold crcU;rw[hI,crcT_nat hlt,show(256:Int)=((256:Nat):Int) from rfl,fdivN,xorN (stN_lt 8 (by omega)) (by omega),w32 (Zeq (k:=32) (stN_lt 8 (by omega)) (by omega)),prc_eq 8 c x (by omega)];congr 1
 conv=>rhs;rw[split8 (c ^^^ x),stN_lin]
 congr 1;rw[stN_low 8 (256*((c ^^^ x) / 256)) (fun i hi=>by rw[show(256:Nat)=2 ^ 8 from rfl,Nat.testBit_two_pow_mul];simp;omega),show(2:Nat) ^ 8=256 from rfl,Nat.mul_div_cancel_left _ (by decide)];apply Nat.eq_of_testBit_eq;intro i;rw[show(256:Nat)=2 ^ 8 from rfl,Nat.testBit_div_two_pow,Nat.testBit_div_two_pow,Nat.testBit_xor,Nat.testBit_lt_two_pow (Nat.lt_of_lt_of_le hx (by rw[Nat.pow_add];exact Nat.le_mul_of_pos_left _ (Nat.two_pow_pos i))),Bool.xor_false]
def Rev (c r:Nat):Prop:=∀ i,i<32→c.testBit i=r.testBit (31-i)
def rB (r:Nat) (b:Bool):Nat:=if(r / 2147483648≠b.toNat) then(r*2 % 4294967296) ^^^ 79764919 else r*2 % 4294967296
theorem rB_lt (r:Nat) (b:Bool):rB r b<2 ^ 32:=by
 unfold rB;split
 ·exact Zeq (by omega) (by decide)
 ·omega
theorem pol_rev:∀ i,i<32→Nat.testBit 3988292384 i=Nat.testBit 79764919 (31-i):=by decide
theorem Rev.step {c r:Nat} (hr:r<2 ^ 32) (hc:c<2 ^ 32) (h:Rev c r) (b:Bool):Rev (stB c b) (rB r b):=by
 have ht:r / 2147483648=(c.testBit 0).toNat:=by
  have h0:=h 0 (by decide);rw[h0,Nat.testBit_eq_decide_div_mod_eq];have:r / 2147483648<2:=by omega
  have h2:(2:Nat) ^ (31-0)=2147483648:=by decide
  rw[h2];rcases(by omega:r / 2147483648=0∨r / 2147483648=1) with e | e<;>rw[e]<;>rfl
 have hb:(c.testBit 0 != b)=decide (r / 2147483648≠b.toNat):=by rw[ht];cases c.testBit 0<;>cases b<;>rfl
 intro i hi;rw[stB_bit,hb];have h2:(r*2 % 4294967296).testBit (31-i)=c.testBit (i+1):=by
  rw[show(4294967296:Nat)=2 ^ 32 from rfl,Nat.testBit_mod_two_pow,show r*2=2 ^ 1*r by omega,Nat.testBit_two_pow_mul];by_cases h3:i=31
  ·subst h3
   rw[Nat.testBit_lt_two_pow hc];simp
  ·rw[h (i+1) (by omega),show 31-(i+1)=31-i-1 by omega]
   simp[show 31-i<32 by omega,show 1≤31-i by omega]
 unfold rB;by_cases h4:r / 2147483648≠b.toNat
 ·rw[if_pos h4,Nat.testBit_xor,h2,pol_rev i hi,decide_eq_true h4,Bool.true_and]
 ·rw[if_neg h4,h2,decide_eq_false h4,Bool.false_and,Bool.xor_false]
def rprc:Nat→Nat→Nat→Nat
 | 0,r,_=>r
 | n+1,r,x=>rprc n (rB r (x.testBit 0)) (x / 2)
theorem rprc_lt:∀ (n:Nat) {r:Nat} (x:Nat),r<2 ^ 32→rprc n r x<2 ^ 32
 | 0,_,_,h=>h
 | n+1,r,x,_=>rprc_lt n _ (rB_lt r _)
theorem prc_lt:∀ (n:Nat) {c:Nat} (x:Nat),c<2 ^ 32→prc n c x<2 ^ 32
 | 0,_,_,h=>h
 | n+1,c,x,h=>prc_lt n _ (stB_lt _ h)
theorem Rev.prc:∀ (n:Nat) {c r:Nat} (x:Nat),r<2 ^ 32→c<2 ^ 32→Rev c r→Rev (Pv.prc n c x) (rprc n r x)
 | 0,_,_,_,_,_,h=>h
 | n+1,c,r,x,hr,hc,h=>Rev.prc n (x / 2) (rB_lt r _) (stB_lt _ hc) (h.step hr hc (x.testBit 0))
def Bys (l:List Int):Prop:=∀ x∈l,0≤x∧x<256
def cF:Nat→List Int→Nat
 | c,[]=>c
 | c,x::l=>cF (Pv.prc 8 c x.toNat) l
def rF:Nat→List Int→Nat
 | r,[]=>r
 | r,x::l=>rF (rprc 8 r x.toNat) l
theorem cF_lt:∀ (l:List Int) {c:Nat},c<2 ^ 32→cF c l<2 ^ 32
 | [],_,h=>h
 | x::l,_,h=>cF_lt l (prc_lt 8 _ h)
theorem rF_lt:∀ (l:List Int) {r:Nat},r<2 ^ 32→rF r l<2 ^ 32
 | [],_,h=>h
 | x::l,_,h=>rF_lt l (rprc_lt 8 _ h)
theorem cF_app:∀ (a b:List Int) (c:Nat),cF c (a++b)=cF (cF c a) b
 | [],_,_=>rfl
 | x::a,b,c=>cF_app a b _
theorem Rev.bytes:∀ (l:List Int) {c r:Nat},r<2 ^ 32→c<2 ^ 32→Rev c r→Rev (cF c l) (rF r l)
 | [],_,_,_,_,h=>h
 | x::l,_,_,hr,hc,h=>Rev.bytes l (rprc_lt 8 _ hr) (prc_lt 8 _ hc) (h.prc 8 _ hr hc)
theorem crcF_eq:∀ (l:List Int) {c:Nat},Bys l→c<2 ^ 32→crcF (c:Int) l=(cF c l:Int)
 | [],_,_,_=>rfl
 | x::l,c,h,hc=>by
  obtain⟨h0,h1⟩:=h x (by simp);obtain⟨n,rfl⟩:=Int.eq_ofNat_of_zero_le h0;rw[crcF,crcU_eq hc (by omega),crcF_eq l (fun y hy=>h y (by simp[hy])) (prc_lt 8 _ hc)];rfl
theorem crcFF_eq:∀ (l:List (List Int)) {c:Nat},(∀ x∈l,Bys x)→c<2 ^ 32→crcFF (c:Int) l=(cF c l.flatten:Int)
 | [],_,_,_=>rfl
 | x::l,c,h,hc=>by
  rw[crcFF,crcF_eq x (h x (by simp)) hc,crcFF_eq l (fun y hy=>h y (by simp[hy])) (cF_lt x hc),List.flatten_cons,cF_app]
def crcV (l:List Int):Nat:=4294967295 ^^^ cF 4294967295 l
theorem crcV_lt (l:List Int):crcV l<2 ^ 32:=Zeq (by decide) (cF_lt l (by decide))
theorem crcO_eq (l:List (List Int)) (h:∀ x∈l,Bys x):crcO l=(crcV l.flatten:Int):=by
 unfold crcO;have e:=crcFF_eq l (c:=4294967295) h (by decide);rw[show((4294967295:Nat):Int)=(4294967295:Int) from rfl] at e;rw[e,show(4294967295:Int)=((4294967295:Nat):Int) from rfl,xorN (by decide) (cF_lt _ (by decide))];exact w32 (crcV_lt l.flatten)
def outN:Nat→Nat→Nat→Nat
 | 0,_,o=>o
 | n+1,r,o=>outN n (r / 2) (if r % 2=0 then o*2+1 else o*2)
theorem outN_bit:∀ (n r o i:Nat),(outN n r o).testBit i=if i<n then !r.testBit (n-1-i) else o.testBit (i-n)
 | 0,r,o,i=>by simp[outN]
 | n+1,r,o,i=>by
  rw[outN,outN_bit n];by_cases h:i<n
  ·rw[if_pos h,if_pos (by omega),Nat.testBit_div_two,show n-1-i+1=n+1-1-i by omega]
  ·rw[if_neg h]
   by_cases h1:i=n
   ·subst h1
    rw[if_pos (show i<i+1 by omega),Nat.sub_self,show i+1-1-i=0 by omega,Nat.testBit_zero,Nat.testBit_zero];by_cases h2:r % 2=0
    ·rw[if_pos h2,h2,show(o*2+1) % 2=1 by omega];rfl
    ·rw[if_neg h2,show r % 2=1 by omega,show(o*2) % 2=0 by omega];rfl
   ·rw[if_neg (show ¬ i<n+1 by omega),show i-n=(i-(n+1))+1 by omega,← Nat.testBit_div_two]
    congr 1;split<;>omega
theorem out_eq {c r:Nat} (hc:c<2 ^ 32) (h:Rev c r):outN 32 r 0=4294967295 ^^^ c:=by
 apply Nat.eq_of_testBit_eq;intro i;rw[outN_bit,Nat.testBit_xor,show(4294967295:Nat)=2 ^ 32-1 from rfl,Nat.testBit_two_pow_sub_one];by_cases hi:i<32
 ·rw[if_pos hi,h i hi]
  simp[hi]
 ·rw[if_neg hi,Nat.testBit_lt_two_pow (Nat.lt_of_lt_of_le hc (Nat.pow_le_pow_right (by decide) (by omega)))]
  simp[hi]
theorem rev_ones:Rev 4294967295 4294967295:=by unfold Rev;decide
theorem crcV_out (l:List Int):outN 32 (rF 4294967295 l) 0=crcV l:=out_eq (cF_lt l (by decide)) (Rev.bytes l (by decide) (by decide) rev_ones)
end Go.Pv
