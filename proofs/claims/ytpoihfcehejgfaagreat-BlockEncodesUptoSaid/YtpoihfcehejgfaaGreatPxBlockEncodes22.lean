import Derived.Test.YtpoihfcehejgfaaGreatPxBlockEncodes21
set_option linter.unusedVariables false
set_option linter.unusedSimpArgs false
set_option maxRecDepth 10000
namespace Go.Proofs.YtpoihfcehejgfaaGreat.PvGS1
open Go Go.Pv Go.Pv.GS Go.IntKind
def four (n:Nat):List Int:=[((n % 256:Nat):Int),((n / 256 % 256:Nat):Int),((n / 65536 % 256:Nat):Int),((n / 16777216 % 256:Nat):Int)]
theorem four_bys (n:Nat):Bys (four n):=by
 intro x hx;simp only[four,List.mem_cons,List.not_mem_nil,or_false] at hx;rcases hx with rfl | rfl | rfl | rfl<;>omega
theorem Z4z (n:Nat):(four n).length=4:=rfl
def Zdl (x:List Int):List Int:=four x.length++four (crcV (four x.length++x))++x
theorem sealB_len (x:List Int):(Zdl x).length=x.length+8:=by simp[Zdl,Z4z];omega
theorem bys_app {a b:List Int} (ha:Bys a) (hb:Bys b):Bys (a++b):=fun x hx=>(List.mem_append.1 hx).elim (ha x) (hb x)
theorem four_eq (n:Nat):Z5z.f (n:Int)=some (four n):=by
 unfold Z5z.f;rw[show(256:Int)=((256:Nat):Int) from rfl,show(65536:Int)=((65536:Nat):Int) from rfl,show(16777216:Int)=((16777216:Nat):Int) from rfl,fdivN,fdivN,fdivN,w8,w8,w8,w8];rfl
theorem sum_of {l:List (List Int)} (h:∀ x∈l,Bys x) (hl:l.length≤1000) (hn:∀ x∈l,x.length≤100000000000):Z6x.f l=some (crcV l.flatten:Int):=by
 unfold Z6x.f;rw[chkB ⟨by omega,fun x hx=>by have:=hn x hx;omega⟩,crcO_eq l h]
theorem sum_two {a b:List Int} (ha:Bys a) (hb:Bys b) (hal:a.length≤100000000000) (hbl:b.length≤100000000000):Z6x.f [a,b]=some (crcV (a++b):Int):=by
 have:=sum_of (l:=[a,b]) (fun x hx=>by
  simp only[List.mem_cons,List.not_mem_nil,or_false] at hx;rcases hx with rfl | rfl
  ·exact ha
  ·exact hb) (by simp) (fun x hx=>by
  simp only[List.mem_cons,List.not_mem_nil,or_false] at hx;rcases hx with rfl | rfl
  ·exact hal
  ·exact hbl)
 rw[this,show [a,b].flatten=a++b by simp]
theorem w32m (n:Nat):u32.wrap (n:Int)=((n % 4294967296:Nat):Int):=by
 have e:u32.wrap (n:Int)=(n:Int) % 4294967296:=by simp[IntKind.wrap,IntKind.signed,IntKind.bits]
 rw[e];omega
theorem four_mod (n:Nat):four (n % 4294967296)=four n:=by
 unfold four;rw[show n % 4294967296 % 256=n % 256 by omega,show n % 4294967296 / 256 % 256=n / 256 % 256 by omega,show n % 4294967296 / 65536 % 256=n / 65536 % 256 by omega,show n % 4294967296 / 16777216 % 256=n / 16777216 % 256 by omega]
theorem seal_eq {x:List Int} (h:Bys x) (hl:x.length<100000000000):Z7j.f x=some (Zdl x):=by
 unfold Z7j.f;rw[w32m,four_eq,four_mod,sb,chkB (by simp[Z4z]),sum_two (four_bys _) h (by simp[Z4z]) (by omega),sb,four_eq,sb,chkB (by simp[Z4z]),chkB (by simp[Z4z];omega)];rfl
theorem or8 {n b:Nat} (hn:n<16777216) (hb:b<256):u32.wrap (((BitVec.toNat (BitVec.ofInt 32 (u32.wrap ((n:Int)*256)) ||| BitVec.ofInt 32 (u32.wrap (b:Int))):Nat):Int))=((n*256+b:Nat):Int):=by
 have e:(n:Int)*256=((n*256:Nat):Int):=by omega
 rw[e,w32 (n:=n*256) (by omega),w32 (n:=b) (by omega),Go.Pv.Z54,Go.Pv.Z54,BitVec.toNat_or,BitVec.toNat_ofNat,BitVec.toNat_ofNat,Nat.mod_eq_of_lt (by omega),Nat.mod_eq_of_lt (by omega)];have h:=Nat.two_pow_add_eq_or_of_lt (show b<2 ^ 8 by omega) n;rw[show n*256=2 ^ 8*n by omega,← h,w32 (by omega)]
theorem number_eq {a b c d:Nat} (ha:a<256) (hb:b<256) (hc:c<256) (hd:d<256) (r:List Int) (hr:r.length<100000000000):Z1w.f ((a:Int)::(b:Int)::(c:Int)::(d:Int)::r)=some ((a+256*b+65536*c+16777216*d:Nat):Int):=by
 unfold Z1w.f;rw[show i64.wrap ((if(4:Int)<((((a:Int)::(b:Int)::(c:Int)::(d:Int)::r).length:Nat):Int) then(4:Int) else((((a:Int)::(b:Int)::(c:Int)::(d:Int)::r).length:Nat):Int))-1)=3 by
  rw[show(if(4:Int)<((((a:Int)::(b:Int)::(c:Int)::(d:Int)::r).length:Nat):Int) then(4:Int) else((((a:Int)::(b:Int)::(c:Int)::(d:Int)::r).length:Nat):Int))=4 by simp only[List.length_cons];split<;>omega];decide]
 have z:(0:Int)=((0:Nat):Int):=rfl;rw[Z1w.l0,if_pos (by decide),show at? ((a:Int)::(b:Int)::(c:Int)::(d:Int)::r) 3=some (d:Int) from rfl,sb,z,or8 (by omega) hd,show i64.wrap (3-1)=2 by decide];rw[Z1w.l0,if_pos (by decide),show at? ((a:Int)::(b:Int)::(c:Int)::(d:Int)::r) 2=some (c:Int) from rfl,sb,or8 (by omega) hc,show i64.wrap (2-1)=1 by decide];rw[Z1w.l0,if_pos (by decide),show at? ((a:Int)::(b:Int)::(c:Int)::(d:Int)::r) 1=some (b:Int) from rfl,sb,or8 (by omega) hb,show i64.wrap (1-1)=0 by decide];rw[Z1w.l0,if_pos (by decide),show at? ((a:Int)::(b:Int)::(c:Int)::(d:Int)::r) 0=some (a:Int) from rfl,sb,or8 (by omega) ha,show i64.wrap (0-1) = -1 by decide];rw[Z1w.l0,if_neg (by decide),sb];congr 2;omega
theorem Ze2 {n:Nat} (h:n<4294967296) (r:List Int) (hr:r.length<100000000000):Z1w.f (four n++r)=some (n:Int):=by
 have:=number_eq (a:=n % 256) (b:=n / 256 % 256) (c:=n / 65536 % 256) (d:=n / 16777216 % 256) (by omega) (by omega) (by omega) (by omega) r hr;rw[show n % 256+256*(n / 256 % 256)+65536*(n / 65536 % 256)+16777216*(n / 16777216 % 256)=n by omega] at this;exact this
theorem open_four {n v:Nat} {x:List Int} (hn:n<4294967296) (hv:v<4294967296) (hx:Bys x) (hl:x.length<1000000000):Z6q.f (four n++(four v++x))=some (if x.length<n then([],[],7) else if crcV (four n++x.take n)=v then(x.take n,x.drop n,0) else([],[],8)):=by
 have hlen:(((four n++(four v++x)).length:Nat):Int)=(x.length:Int)+8:=by simp[Z4z];omega
 unfold Z6q.f;rw[hlen,if_neg (by simp;omega),Ze2 hn _ (by simp[Z4z];omega),sb];rw[Z2l (n:=(n:Int)) (by omega) (by omega),Z8 (by omega) (by omega),Z2l (n:=(x.length:Int)+8-8) (by omega) (by omega)];by_cases hnx:x.length<n
 ·rw[if_pos (by simp;omega),if_pos hnx]
 ·rw[if_neg (by simp;omega),if_neg hnx,Z2l   (n:=8+(n:Int)) (by omega) (by omega),chkB (by omega),chkB (by omega)]
  rw[show Int.toNat (8+(n:Int))=n+8 by omega,show Int.toNat (8:Int)=8 from rfl,show Int.toNat (0:Int)=0 from rfl,show Int.toNat (4:Int)=4 from rfl,List.drop_zero];have d8:(four n++(four v++x)).drop 8=x:=by simp[four]
  have d4:(four n++(four v++x)).drop 4=four v++x:=by simp[four]
  have dn:(four n++(four v++x)).drop (n+8)=x.drop n:=by rw[Nat.add_comm,← List.drop_drop,d8]
  have t4:(four n++(four v++x)).take (4-0)=four n:=by simp[four]
  have ht:(x.take n).length=n:=by rw[List.length_take];omega
  rw[d8,d4,dn,t4,show n+8-8=n by omega,sum_two (four_bys _) (fun z hz=>hx z (List.mem_of_mem_take hz)) (by simp[Z4z]) (by omega),sb];rw[chkB (by omega),List.take_of_length_le (l:=four v++x) (by simp[Z4z];omega),Ze2 hv _ (by omega),sb];by_cases he:crcV (four n++x.take n)=v
  ·rw[if_neg (by simp[he]),if_pos he,chkB (by simp;omega),chkB (by omega),chkB (by simp;omega),List.take_of_length_le (l:=x.drop n) (by simp;omega)]
  ·rw[if_pos (by simp;omega),if_neg he]
theorem open_fwd {x:List Int} (h:Bys x) (hl:x.length<900000000):Z6q.f (Zdl x)=some (x,[],0):=by
 have hv:=crcV_lt (four x.length++x);unfold Zdl;rw[List.append_assoc,open_four (by omega) (by omega) h (by omega),if_neg (by omega),List.take_length,if_pos rfl,List.drop_length]
theorem rfour_eq {n:Nat} (h:n<4294967296):Z3e.f (n:Int)=some (four n):=by
 have st:∀ (k:Nat) (a:List Int) (i:Int),k<4294967296→a.length<4→i=(a.length:Int)→Z3e.l0 (k:Int) a i=Z3e.l0 ((k / 256:Nat):Int) (a++[((k % 256:Nat):Int)]) (i+1):=by
  intro k a i hk ha hi;have e1:Int.tmod (k:Int) 256=((k % 256:Nat):Int):=by rw[Int.tmod_eq_emod_of_nonneg (by omega)];omega
  have e2:Int.tdiv (k:Int) 256=((k / 256:Nat):Int):=by rw[Int.tdiv_eq_ediv_of_nonneg (by omega)];omega
  rw[Z3e.l0,if_pos (by simp;omega),e1,e2,w8,w32 (by omega),Nat.mod_mod,chkB (by simp;omega),Z8 (by omega) (by omega)]
 unfold Z3e.f;rw[st n [] 0 h (by simp) rfl,st _ _ _ (by omega) (by simp) (by simp),st _ _ _ (by omega) (by simp) (by simp),st _ _ _ (by omega) (by simp) (by simp),Z3e.l0,if_neg (by decide),sb];simp only[List.nil_append,List.cons_append,four,Nat.div_div_eq_div_mul]
theorem rcrc_l1 (a:List Int) (j:Int):∀ (m r x:Nat) (i:Int),i=((8-m:Nat):Int)→m≤8→r<4294967296→x<256→Z2m.l1 a j (r:Int) (x:Int) i=some (rprc m r x:Int):=by
 intro m
 induction m with
 | zero=>intro r x i hi hm hr hx;rw[Z2m.l1,if_neg (by simp;omega)];rfl
 | succ m ih =>
  intro r x i hi hm hr hx;have e1:Int.tdiv (r:Int) 2147483648=((r / 2147483648:Nat):Int):=by rw[Int.tdiv_eq_ediv_of_nonneg (by omega)];omega
  have e2:Int.tmod (x:Int) 2=((x % 2:Nat):Int):=by rw[Int.tmod_eq_emod_of_nonneg (by omega)];omega
  have e3:Int.tdiv (x:Int) 2=((x / 2:Nat):Int):=by rw[Int.tdiv_eq_ediv_of_nonneg (by omega)];omega
  have e4:Int.tmod ((r:Int)*2) 4294967296=((r*2 % 4294967296:Nat):Int):=by rw[Int.tmod_eq_emod_of_nonneg (by omega)];omega
  have hb:(x.testBit 0).toNat=x % 2:=by rw[Nat.testBit_zero];rcases(by omega:x % 2=0∨x % 2=1) with e | e<;>rw[e]<;>rfl
  rw[Z2m.l1,if_pos (by simp;omega),e1,e2,e3,Z2l (n:=(r:Int)*2) (by omega) (by omega),e4,Z2l (n:=((r / 2147483648:Nat):Int)) (by omega) (by omega),Z2l (n:=((x / 2:Nat):Int)) (by omega) (by omega),Z8 (by omega) (by omega)];rw[show(79764919:Int)=((79764919:Nat):Int) from rfl,xorN (k:=64) (by omega) (by decide)];have hx2:(r*2 % 4294967296) ^^^ 79764919<2 ^ 32:=Zew (by omega) (by decide);rw[Z2l (n:=(((r*2 % 4294967296) ^^^ 79764919:Nat):Int)) (by omega) (by omega)];have hstep:(if(((r / 2147483648:Nat):Int) != ((x % 2:Nat):Int))=true then some ((((r*2 % 4294967296) ^^^ 79764919:Nat):Int)) else some (((r*2 % 4294967296:Nat):Int)))=some ((rB r (x.testBit 0):Nat):Int):=by
   unfold rB;rw[hb];by_cases h:r / 2147483648=x % 2
   ·rw[if_neg (by simp;omega),if_neg (by simpa using h)]
   ·rw[if_pos (by simp;omega),if_pos h]
  rw[hstep,sb,ih _ (x / 2) (i+1) (by omega) (by omega) (rB_lt _ _) (by omega)];rfl
theorem rcrc_l0 (a:List Int) (ha:Bys a) (hl:a.length<100000000000):∀ (suf pre:List Int) (r:Nat) (i:Int),a=pre++suf→i=(pre.length:Int)→r<4294967296→Z2m.l0 a (r:Int) i=some (rF r suf:Int):=by
 intro suf
 induction suf with
 | nil=>intro pre r i h1 hi hr;rw[Z2m.l0,if_neg (by rw[h1];simp[hi])];rfl
 | cons x suf ih =>
  intro pre r i h1 hi hr;obtain⟨x0,x1⟩:=ha x (by rw[h1];simp);have hlen:a.length=pre.length+(suf.length+1):=by rw[h1];simp
  obtain⟨n,rfl⟩:=Int.eq_ofNat_of_zero_le x0;rw[Z2m.l0,if_pos (by simp;omega),Z03 h1 hi,sb,Z2l (by omega) (by omega),rcrc_l1 a i 8 r n 0 rfl (by omega) hr (by omega),sb,Z8 (by omega) (by omega)];rw[ih (pre++[(n:Int)]) _ (i+1) (by simp[h1]) (by simp;omega) (rprc_lt 8 n hr)];rfl
theorem rcrc_l2:∀ (m r o:Nat) (i:Int),i=((32-m:Nat):Int)→m≤32→r<4294967296→o<2 ^ (32-m)→Z2m.l2 (r:Int) (o:Int) i=some (outN m r o:Int):=by
 intro m
 induction m with
 | zero=>intro r o i hi hm hr ho;rw[Z2m.l2,if_neg (by simp;omega)];rfl
 | succ m ih =>
  intro r o i hi hm hr ho;have e2:Int.tmod (r:Int) 2=((r % 2:Nat):Int):=by rw[Int.tmod_eq_emod_of_nonneg (by omega)];omega
  have e3:Int.tdiv (r:Int) 2=((r / 2:Nat):Int):=by rw[Int.tdiv_eq_ediv_of_nonneg (by omega)];omega
  have hp:o<2 ^ 31:=Nat.lt_of_lt_of_le ho (Nat.pow_le_pow_right (by decide) (by omega));have ho2:o*2+1<2 ^ (32-m):=by rw[show 32-m=(32-(m+1))+1 by omega,Nat.pow_succ];omega
  rw[Z2m.l2,if_pos (by simp;omega),e2,e3,show(o:Int)*2=((o*2:Nat):Int) by omega,w32 (by omega),show((o*2:Nat):Int)+1=((o*2+1:Nat):Int) by omega,w32 (by omega),Z2l (by omega) (by omega),Z8 (by omega) (by omega)];rw[outN];by_cases h:r % 2=0
  ·rw[if_pos (by simp;omega),sb,ih _ (o*2+1) (i+1) (by omega) (by omega) (by omega) ho2,if_pos h]
  ·rw[if_neg (by simp;omega),sb,ih _ (o*2) (i+1) (by omega) (by omega) (by omega) (by omega),if_neg h]
theorem rcrc_eq {a:List Int} (ha:Bys a) (hl:a.length<100000000000):Z2m.f a=some (crcV a:Int):=by
 unfold Z2m.f;have h:=rcrc_l0 a ha hl a [] 4294967295 0 rfl rfl (by decide);rw[show((4294967295:Nat):Int)=(4294967295:Int) from rfl] at h;have h2:=rcrc_l2 32 (rF 4294967295 a) 0 0 rfl (by decide) (rF_lt a (by decide)) (by decide);rw[show((0:Nat):Int)=(0:Int) from rfl] at h2;rw[h,sb,h2,sb,crcV_out]
def idx (W:List ByteArray) (w:ByteArray):Nat:=(W.takeWhile (fun x=>bl x w)).length
theorem idx_split {W:List ByteArray} {w:ByteArray} (hs:Z57 W) (hw:w∈W):∃ A B,W=A++w::B∧idx W w=A.length∧(∀ a∈A,bl a w=true)∧∀ b∈B,bl w b=true:=by
 have hW:=List.takeWhile_append_dropWhile (p:=fun x=>bl x w) (l:=W);have hA:∀ a∈W.takeWhile (fun x=>bl x w),bl a w=true:=fun a ha=>List.all_eq_true.1 (List.all_takeWhile (p:=fun x=>bl x w) (l:=W)) a ha
 cases hd:W.dropWhile (fun x=>bl x w) with
 | nil =>
  rw[hd,List.append_nil] at hW;rw[← hW] at hw;have:=hA w hw;rw[Z68] at this;simp at this
 | cons y r =>
  have hy:bl y w=false:=by
   have:=List.head?_dropWhile_not (fun x=>bl x w) W;rw[hd] at this;simpa using this
  rw[hd] at hW;have hs2:=hs;rw[← hW] at hs2 hw;obtain⟨_,p2,p3⟩:=List.pairwise_append.1 hs2;obtain⟨q1,_⟩:=List.pairwise_cons.1 p2;have hyw:y=w:=by
   rcases List.mem_append.1 hw with h | h
   ·have:=hA w h;rw[Z68] at this;simp at this
   ·rcases List.mem_cons.1 h with h | h
    ·exact h.symm
    ·have:=q1 w h;rw[hy] at this;simp at this
  subst hyw;exact⟨_,r,hW.symm,rfl,hA,q1⟩
theorem Z5y {W:List ByteArray} {w:ByteArray} (hs:Z57 W) (hw:w∈W):idx W w<W.length∧W[idx W w]? = some w:=by
 obtain⟨A,B,h1,h2,_⟩:=idx_split hs hw;rw[h2,h1];simp
theorem idx_lo {W:List ByteArray} {w x:ByteArray} {k:Nat} (hs:Z57 W) (hw:w∈W) (hx:W[k]? = some x):(k<idx W w↔bl x w=true):=by
 obtain⟨A,B,h1,h2,h3,h4⟩:=idx_split hs hw;rw[h2];rw[h1] at hx;constructor
 ·intro h
  rw[List.getElem?_append_left h] at hx;exact h3 x (List.mem_of_getElem? hx)
 ·intro h
  rcases Nat.lt_or_ge k A.length with c | c
  ·exact c
  ·rw[List.getElem?_append_right c] at hx
   have hm:=List.mem_of_getElem? hx;rcases List.mem_cons.1 hm with e | e
   ·subst e;rw[Z68] at h;simp at h
   ·have h5:=h4 x e
    have h6:bl x w=false:=Zdf h5;rw[h6] at h;simp at h
theorem less_str (a b:ByteArray):Z45.f a b=some (bl a b):=by
 unfold Z45.f Z22.f;simp[sb]
theorem binS_l0 {W:List ByteArray} {w:ByteArray} (hs:Z57 W) (hw:w∈W) (hl:W.length≤100000):∀ (n i j:Nat),j-i≤n→i≤idx W w→idx W w≤j→j≤W.length→Z00.l0 W w (i:Int) (j:Int)=some ((idx W w:Nat):Int):=by
 intro n
 induction n with
 | zero =>
  intro i j h1 h2 h3 h4;rw[Z00.l0,if_neg (by simp;omega)];congr 2;omega
 | succ n ih =>
  intro i j h1 h2 h3 h4;by_cases hij:i<j
  case neg=>rw[Z00.l0,if_neg (by simp;omega)];congr 2;omega
  obtain⟨x,hx⟩:∃ x,W[(i+j) / 2]? = some x:=⟨_,List.getElem?_eq_getElem (by omega)⟩
  have hlo:=idx_lo hs hw hx;rw[Z00.l0,if_pos (by simp;omega),half_eq (by omega),Z69 rfl hx,sb,less_str,sb];cases hlt:bl x w with
  | true =>
   rw[if_pos rfl,sb,Z8 (by omega) (by omega)];exact ih ((i+j) / 2+1) j (by omega) (hlo.2 hlt) h3 h4
  | false =>
   rw[if_neg (by simp),sb];refine ih i ((i+j) / 2) (by omega) h2 ?_ (by omega);rcases Nat.lt_or_ge ((i+j) / 2) (idx W w) with h | h
   ·rw[hlo.1 h] at hlt;simp at hlt
   ·exact h
theorem binS {W:List ByteArray} {w:ByteArray} (hs:Z57 W) (hw:w∈W) (hl:W.length≤100000):∃ b,Z00.f W w=some (((idx W w:Nat):Int),b):=by
 obtain⟨h1,h2⟩:=Z5y hs hw;unfold Z00.f;have e:=binS_l0 hs hw hl W.length 0 W.length (by omega) (by omega) (by omega) (Nat.le_refl _);rw[show(0:Int)=((0:Nat):Int) from rfl,e,sb,if_pos (by simp;omega),Z69 rfl h2,sb,eqB,if_pos (by simp),sb];exact⟨_,rfl⟩
def Z7z (W ws:List ByteArray):List Bool:=ws.flatMap fun w=>cnt2 (idx W w)
def rowB (W:List ByteArray) (r:Zh):List Bool:=cnt2 (lab r.f0).length++(Z7z W (kw r.f0)++smpsB r.f1)
def blkB (b:Z2) (W:List ByteArray):List Bool:=cnt2 b.f0.f2.toNat++(cnt2 b.f0.f0.toNat++(cnt2 W.length++(W.flatMap Z73++(cnt2 b.f1.length++b.f1.flatMap (rowB W)))))
structure RowG (W:List ByteArray) (r:Zh):Prop where
 k:Z8f r.f0
 w:∀ x∈kw r.f0,x∈W
 s:∀ s∈r.f1,SOk s
 n:r.f1.length≤50000
theorem Zdt (W ws:List ByteArray):(Z7z W ws).length≤71*ws.length:=Zce _ 71 ws (fun w _=>Z0l _)
theorem RowG.len {W:List ByteArray} {r:Zh} (h:RowG W r):(rowB W r).length≤5000+3300000*r.f1.length:=by
 obtain⟨C,hC⟩:=cutX_ok r.f1 (by have:=h.n;omega) h.s;have h1:=smpsB_len hC;have h2:=Zdt W (kw r.f0);have h3:=Ze5 h.k;have h4:=Z0l (lab r.f0).length;rw[rowB,List.length_append,List.length_append];omega
theorem we_l3 (a0:Z2) (r:Zh) (x:Z0d) {W:List ByteArray} (hs:Z57 W) (hl:W.length≤100000) (t:(List Z0d)×Int) (j k:Int) (h0:x.f0∈W) (h1:x.f1∈W) {b:List Int} {f:Nat} {s:List Bool} (hL:Laid b f s) (hsl:s.length<600000000000) :
  ∃ (b':List Int) (f':Nat),Zl.l3 a0 r x W t j k b (f:Int) 0=some (b',(f':Int))∧Laid b' f' (s++(cnt2 (idx W x.f0)++cnt2 (idx W x.f1))):=by
 have i0:=Z5y hs h0;have i1:=Z5y hs h1;obtain⟨c0,e0⟩:=binS hs h0 hl;obtain⟨c1,e1⟩:=binS hs h1 hl;have l0:=Z0l (idx W x.f0);rw[Zl.l3,if_pos (by decide),chkB (by decide),if_pos (by decide),sb,e0,sb];dsimp only;rw[Z2l (by omega) (by omega)];obtain⟨b1,f1,g1,g2⟩:=Z6k hL (by omega) (n:=((idx W x.f0:Nat):Int)) (by omega) (by omega);rw[g1,sb];dsimp only;rw[Int.toNat_natCast] at g2;rw[show i64.wrap (0+1)=1 by decide,Zl.l3,if_pos (by decide),chkB (by decide),if_neg (by decide),sb,e1,sb];dsimp only;rw[Z2l (by omega) (by omega)];obtain⟨b2,f2,g3,g4⟩:=Z6k g2 (by rw[List.length_append];omega) (n:=((idx W x.f1:Nat):Int)) (by omega) (by omega);rw[g3,sb];dsimp only;rw[Int.toNat_natCast] at g4;rw[show i64.wrap (1+1)=2 by decide,Zl.l3,if_neg (by decide)];exact⟨b2,f2,rfl,by rw[← List.append_assoc];exact g4⟩
theorem we_l2 (a0:Z2) (r:Zh) {W:List ByteArray} (hs:Z57 W) (hl:W.length≤100000) (t:(List Z0d)×Int) (j:Int) (ht:t.1.length≤16) (hW:∀ w∈Z3s t.1,w∈W):∀ (suf pre:List Z0d) (b:List Int) (f:Nat) (s:List Bool) (i:Int),t.1=pre++suf→i=(pre.length:Int)→Laid b f s→s.length+142*suf.length<600000000000 →
  ∃ (b':List Int) (f':Nat),Zl.l2 a0 r W t j b (f:Int) i=some (b',(f':Int))∧Laid b' f' (s++Z7z W (Z3s suf)):=by
 intro suf
 induction suf with
 | nil=>intro pre b f s i h1 hi hL _;rw[Zl.l2,if_neg (by rw[h1];simp[hi])];exact⟨b,f,rfl,by simpa[Z7z,Z3s] using hL⟩
 | cons x suf ih =>
  intro pre b f s i h1 hi hL hsl;have hlen:t.1.length=pre.length+(suf.length+1):=by rw[h1];simp
  simp only[List.length_cons] at hsl;have h0:x.f0∈W:=hW _ (by rw[h1];simp[Z3s]);have h01:x.f1∈W:=hW _ (by rw[h1];simp[Z3s]);obtain⟨b1,f1,g1,g2⟩:=we_l3 a0 r x hs hl t j i h0 h01 hL (by omega);have l0:=Z0l (idx W x.f0);have l1:=Z0l (idx W x.f1);rw[Zl.l2,if_pos (by simp;omega),Z03 h1 hi,sb,g1,sb];dsimp only;rw[Z8 (by omega) (by omega)];obtain⟨b2,f2,g3,g4⟩:=ih (pre++[x]) b1 f1 _ (i+1) (by simp[h1]) (by simp;omega) g2 (by simp only[List.length_append];omega);exact⟨b2,f2,g3,by simpa[Z7z,Z3s] using g4⟩
theorem we_l4 (a0:Z2) (W:List ByteArray) (j:Int) (C:List (List Z6)) (hC:∀ c∈C,Chu c) (hl:C.length≤1000000):∀ (suf pre:List (List Z6)) (b:List Int) (f:Nat) (s:List Bool) (i:Int),C=pre++suf→i=(pre.length:Int)→s.length+3300000*suf.length<600000000000→Laid b f s →
  ∃ (b':List Int) (f':Nat),Zl.l4 a0 W C j b (f:Int) i=some (b',(f':Int))∧Laid b' f' (s++Z9u suf):=by
 intro suf
 induction suf with
 | nil =>
  intro pre b f s i h1 hi _ hL;rw[Zl.l4,if_neg (by rw[h1];simp[hi])];exact⟨b,f,rfl,by simpa[Z9u] using hL⟩
 | cons c suf ih =>
  intro pre b f s i h1 hi hs hL;have hlen:C.length=pre.length+(suf.length+1):=by rw[h1];simp
  have hc:=hC c (by rw[h1];simp);obtain⟨e1,_,e3,e4⟩:=hc.enc;have ht:=hc.txt;simp only[List.length_cons] at hs;rw[Zl.l4,if_pos (by simp;omega),Z03 h1 hi,sb,e1,sb];dsimp only;obtain⟨b1,f1,g1,g2⟩:=text_eq hL (Z7a (encX c)) (by omega) (by omega);rw[g1,sb,Z8 (n:=i+1) (by omega) (by omega)];dsimp only;obtain⟨b2,f2,g3,g4⟩:=ih (pre++[c]) b1 f1 _ (i+1) (by simp[h1]) (by simp;omega) (by rw[List.length_append];omega) g2;exact⟨b2,f2,g3,by simpa[Z9u] using g4⟩
theorem we_l1 (a0:Z2) {W:List ByteArray} (hs:Z57 W) (hl:W.length≤100000) (hn:a0.f1.length≤64) (hG:∀ r∈a0.f1,RowG W r):∀ (suf pre:List Zh) (b:List Int) (f:Nat) (s:List Bool) (i:Int),a0.f1=pre++suf→i=(pre.length:Int)→Laid b f s →
  s.length+((suf.map (fun r=>r.f1.length)).sum*3300000+5000*suf.length)<300000000000→∃ (b':List Int) (f':Nat),Zl.l1 a0 W b (f:Int) i=some (b',(f':Int))∧Laid b' f' (s++suf.flatMap (rowB W)):=by
 intro suf
 induction suf with
 | nil=>intro pre b f s i h1 hi hL _;rw[Zl.l1,if_neg (by rw[h1];simp[hi])];exact⟨b,f,rfl,by simpa using hL⟩
 | cons r suf ih =>
  intro pre b f s i h1 hi hL hsl;have hlen:a0.f1.length=pre.length+(suf.length+1):=by rw[h1];simp
  simp only[List.length_cons,List.map_cons,List.sum_cons] at hsl;have hr:=hG r (by rw[h1];simp);have hln:=hr.k.n;have hrb:=hr.len;obtain⟨C,hC⟩:=cutX_ok r.f1 (by have:=hr.n;omega) hr.s;have hCl:=hC.len;have hrn:=hr.n;rw[Zl.l1,if_pos (by simp;omega),Z03 h1 hi,sb,hr.k.f,sb];dsimp only;rw[Z2l (by omega) (by omega)];obtain⟨b1,f1,g1,g2⟩:=Z6k hL (by omega) (n:=(((lab r.f0).length:Nat):Int)) (by omega) (by omega);rw[g1,sb];dsimp only;rw[Int.toNat_natCast] at g2;have c1:=Z0l (lab r.f0).length;obtain⟨b2,f2,g3,g4⟩:=we_l2 a0 r hs hl (lab r.f0,0) i hln hr.w (lab r.f0) [] b1 f1 _ 0 rfl rfl g2 (by rw[List.length_append];omega);have c2:=Zdt W (kw r.f0);have c3:=Ze5 hr.k;rw[show Z7z W (Z3s (lab r.f0))=Z7z W (kw r.f0) from rfl] at g4;rw[g3,sb];dsimp only;rw[hC.p,sb,Z2l (by omega) (by omega)];obtain⟨b3,f3,g5,g6⟩:=Z6k g4 (by simp only[List.length_append];omega) (n:=(C.length:Int)) (by omega) (by omega);rw[g5,sb];dsimp only;rw[Int.toNat_natCast] at g6;have c4:=Z0l C.length;obtain⟨b4,f4,g7,g8⟩:=we_l4 a0 W i C hC.ok (by omega) C [] b3 f3 _ 0 rfl rfl (by simp only[List.length_append];omega) g6;have hbits:s++cnt2 (lab r.f0).length++Z7z W (kw r.f0)++cnt2 C.length++Z9u C=s++rowB W r:=by
   rw[rowB,smpsB,hC.x];simp only[List.append_assoc]
  rw[hbits] at g8;rw[g7,sb];dsimp only;rw[Z8 (by omega) (by omega)];obtain⟨b5,f5,g9,g10⟩:=ih (pre++[r]) b4 f4 _ (i+1) (by simp[h1]) (by simp;omega) g8 (by rw[List.length_append];omega);exact⟨b5,f5,g9,by simpa using g10⟩
theorem we_l0 (a0:Z2) (W:List ByteArray) (hl:W.length≤2048) (hw:∀ w∈W,w.size≤64):∀ (suf pre:List ByteArray) (b:List Int) (f:Nat) (s:List Bool) (i:Int),W=pre++suf→i=(pre.length:Int)→Laid b f s→s.length+600*suf.length<300000000000 →
  ∃ (b':List Int) (f':Nat),Zl.l0 a0 W b (f:Int) i=some (b',(f':Int))∧Laid b' f' (s++suf.flatMap Z73):=by
 intro suf
 induction suf with
 | nil=>intro pre b f s i h1 hi hL _;rw[Zl.l0,if_neg (by rw[h1];simp[hi])];exact⟨b,f,rfl,by simpa using hL⟩
 | cons w suf ih =>
  intro pre b f s i h1 hi hL hsl;have hlen:W.length=pre.length+(suf.length+1):=by rw[h1];simp
  simp only[List.length_cons] at hsl;have hw0:=hw w (by rw[h1];simp);have ht:=Z72 w;rw[Zl.l0,if_pos (by simp;omega),Z03 h1 hi,sb];obtain⟨b1,f1,g1,g2⟩:=text_eq hL w (by omega) (by omega);rw[g1,sb,Z8 (by omega) (by omega)];dsimp only;obtain⟨b2,f2,g3,g4⟩:=ih (pre++[w]) b1 f1 _ (i+1) (by simp[h1]) (by simp;omega) g2 (by rw[List.length_append];omega);exact⟨b2,f2,g3,by simpa using g4⟩
structure BSz (b:Z2):Prop where
 rows:∀ r∈b.f1,RowB r
 len:b.f1.length<1000000000
 sum:(b.f1.map fun r=>r.f1.length).sum≤50000
theorem Zey {α:Type} (f:α→Nat):∀ {l:List α} {x:α},x∈l→f x≤(l.map f).sum
 | y::l,x,h=>by
  rw[List.map_cons,List.sum_cons];rcases List.mem_cons.1 h with rfl | h
  ·omega
  ·have:=Zey f h;omega
theorem rowG {b:Z2} (hz:BSz b) (hb:BlkOK b) {W:List ByteArray} (hT:Table b W):∀ r∈b.f1,RowG W r:=fun r hr=>by
 have h1:=hz.rows r hr;have h2:=hb.rows r hr;refine⟨keyOK16 h1.k h2.k,fun x hx=>(hT.mem x).2 (List.mem_flatMap.2 ⟨r,hr,hx⟩),fun s hs=>sok_inv (h1.f s hs).1 (rise_ok _ _ h2.up s hs),?_⟩;have:=Zey (fun r:Zh=>r.f1.length) hr;have:=hz.sum;omega
theorem keys16 {b:Z2} (hz:BSz b) (hb:BlkOK b):∀ r∈b.f1,Z8f r.f0:=fun r hr=>keyOK16 (hz.rows r hr).k (hb.rows r hr).k
theorem Z8h {b:Z2} (hz:BSz b) (hb:BlkOK b) {W:List ByteArray} (hT:Table b W):∀ w∈W,w.size≤64:=fun w hw=>by
 obtain⟨r,hr,hw⟩:=List.mem_flatMap.1 ((hT.mem w).1 hw);exact(keys16 hz hb r hr).s w hw
theorem Zat (W:List ByteArray):∀ (l:List Zh),(∀ r∈l,RowG W r)→(l.flatMap (rowB W)).length≤(l.map fun r=>r.f1.length).sum*3300000+5000*l.length
 | [],_=>by simp
 | r::l,h=>by
  have h1:=(h r (by simp)).len;have h2:=Zat W l (fun x hx=>h x (by simp[hx]));simp only[List.flatMap_cons,List.length_append,List.map_cons,List.sum_cons,List.length_cons];omega
theorem blkB_len {b:Z2} (hz:BSz b) (hb:BlkOK b) {W:List ByteArray} (hT:Table b W):(blkB b W).length≤165002000000:=by
 have h1:=Zat W b.f1 (rowG hz hb hT);have h2:=Zce Z73 600 W (fun w hw=>by have:=Z72 w;have:=Z8h hz hb hT w hw;omega);have h3:=hT.len;have h4:=hz.sum;have h5:=hb.len;have:=Z0l b.f0.f2.toNat;have:=Z0l b.f0.f0.toNat;have:=Z0l W.length;have:=Z0l b.f1.length;simp only[blkB,List.length_append];omega
theorem wcount00 (f n:Int):Z1e.f f n=Z9.f [] f n:=by kernel_rfl
theorem bytes_ok16 {b:List Int} {f:Int} (h:b.length<100000000000):Z1f.f b f=some b:=by
 unfold Z1f.f Z31.f;rw[chkB (by simp;omega),sb]
theorem enc16 {b:Z2} (hz:BSz b) (hb:BlkOK b):∃ (W:List ByteArray) (x:List Int) (f:Nat),Table b W∧Laid x f (blkB b W)∧Zl.f b=some (Zdl x,0):=by
 obtain⟨W,hW,hT⟩:=words16 b hb.len (keys16 hz hb);have hm:=hb.m;have hmem:=rowG hz hb hT;have h4:=hz.sum;have h5:=hb.len;have h6:=hT.len;unfold Zl.f;rw[check16 b hz.len hz.rows,(blkC_ok b).2 hb,sb,if_neg (by simp),wcount00,Z2l hm.1 (by have:=hm.2.1;omega)];obtain⟨b1,f1,e1,g1⟩:=Z6k Laid.nil (by simp) (n:=b.f0.f2) hm.1 (by have:=hm.2.1;omega);rw[show((0:Nat):Int)=(0:Int) from rfl] at e1;rw[e1,sb];dsimp only;rw[Z2l hm.2.2.1 (by have:=hm.2.2.2.1;omega)];have c1:=Z0l b.f0.f2.toNat;obtain⟨b2,f2,e2,g2⟩:=Z6k g1 (by simp;omega) (n:=b.f0.f0) hm.2.2.1 (by have:=hm.2.2.2.1;omega);have c2:=Z0l b.f0.f0.toNat;rw[e2,sb];dsimp only;rw[hW,sb,Z2l (n:=(W.length:Int)) (by omega) (by omega)];obtain⟨b3,f3,e3,g3⟩:=Z6k g2 (by simp;omega) (n:=(W.length:Int)) (by omega) (by omega);rw[Int.toNat_natCast] at g3;have c3:=Z0l W.length;rw[e3,sb];dsimp only;obtain⟨b4,f4,e4,g4⟩:=we_l0 b W hT.len (Z8h hz hb hT) W [] b3 f3 _ 0 rfl rfl g3 (by simp;omega);have c4:=Zce Z73 600 W (fun w hw=>by have:=Z72 w;have:=Z8h hz hb hT w hw;omega);rw[e4,sb];dsimp only;rw[Z2l (n:=(b.f1.length:Int)) (by omega) (by omega)];obtain⟨b5,f5,e5,g5⟩:=Z6k g4 (by simp only[List.length_append,List.length_nil];omega) (n:=(b.f1.length:Int)) (by omega) (by omega);rw[Int.toNat_natCast] at g5;have c5:=Z0l b.f1.length;rw[e5,sb];dsimp only;obtain⟨b6,f6,e6,g6⟩:=we_l1 b hT.up (by omega) hb.len hmem b.f1 [] b5 f5 _ 0 rfl rfl g5 (by simp only[List.length_append,List.length_nil];omega);rw[e6,sb];dsimp only;have hL:Laid b6 f6 (blkB b W):=by
  have:blkB b W=[]++cnt2 b.f0.f2.toNat++cnt2 b.f0.f0.toNat++cnt2 W.length++W.flatMap Z73++cnt2 b.f1.length++b.f1.flatMap (rowB W):=by rw[blkB];simp only[List.append_assoc,List.nil_append]
  rw[this];exact g6
 have hll:=hL.len;have hlt:=hL.lt;have hbl:=blkB_len hz hb hT;refine⟨W,b6,f6,hT,hL,?_⟩;rw[bytes_ok16 (by omega),sb,seal_eq (Z8m hL) (by omega),sb]
theorem rtext16 (t:ByteArray) (ht:t.size≤2000000):Z60.f t=some (strB (Z73 t)):=by
 unfold Z60.f;have hb:=Z72 t;rw[Z2l (by omega) (by omega),Z86 (by omega),sb,rtext (Z2d t) (by rw[Z66];omega) (fun x hx=>Zaw t x hx),sb,← by8_bits,chkB (by rw[Zu,Zu,by8_len,Z66];have:=Z0l t.size;omega),← Z0p,Z73]
theorem re_l3 (b:Z07) (W:List ByteArray) (hl:W.length≤2048) (hw:∀ w∈W,w.size≤64):∀ (suf pre:List ByteArray) (s:List Bool) (i:Int),W=pre++suf→i=(pre.length:Int)→s.length+600*suf.length<300000000000 →
  Zc.l3 b W (strB s) i=some (strB (s++suf.flatMap Z73)):=by
 intro suf
 induction suf with
 | nil=>intro pre s i h1 hi _;rw[Zc.l3,if_neg (by rw[h1];simp[hi])];simp
 | cons w suf ih =>
  intro pre s i h1 hi hsl;have hlen:W.length=pre.length+(suf.length+1):=by rw[h1];simp
  simp only[List.length_cons] at hsl;have hw0:=hw w (by rw[h1];simp);have ht:=Z72 w;rw[Zc.l3,if_pos (by simp;omega),Z03 h1 hi,sb,rtext16 w (by omega),sb,chkB (by rw[Zu,Zu];omega),← Z0p,Z8 (by omega) (by omega),ih (pre++[w]) _ (i+1) (by simp[h1]) (by simp;omega) (by rw[List.length_append];omega)];simp
theorem re_l6 (b:Z07) (p:List ByteArray) {W:List ByteArray} (hs:Z57 W) (hl:W.length≤2048) (j k:Int) (w:ByteArray) (hk:at? p k=some w) (hw:w∈W):∀ (suf pre:List ByteArray) (s:List Bool) (i:Int),W=pre++suf→i=(pre.length:Int)→s.length+71*suf.length<600000000000 →
  Zc.l6 b p W j k (strB s) i=some (strB (s++if pre.length≤idx W w then cnt2 (idx W w) else [])):=by
 obtain⟨hi1,hi2⟩:=Z5y hs hw;intro suf
 induction suf with
 | nil =>
  intro pre s i h1 hi _;rw[Zc.l6,if_neg (by rw[h1];simp[hi])];rw[h1,List.append_nil] at hi1;rw[if_neg (by rw[h1,List.append_nil];omega)];simp
 | cons x suf ih =>
  intro pre s i h1 hi hsl;have hlen:W.length=pre.length+(suf.length+1):=by rw[h1];simp
  have hx:W[pre.length]? = some x:=by rw[h1];simp
  simp only[List.length_cons] at hsl;rw[Zc.l6,if_pos (by simp;omega),Z03 h1 hi,sb,hk,sb,eqB];by_cases e:x=w
  ·subst e
   have hpi:pre.length=idx W x:=by
    have h3:=idx_lo hs hw hx;have h4:¬ pre.length<idx W x:=fun h=>by have:=h3.1 h;rw[Z68] at this;simp at this
    rcases Nat.lt_or_ge (idx W x) pre.length with h5 | h5
    ·have:=List.pairwise_iff_getElem.1 hs (idx W x) pre.length hi1 (by omega) h5
     obtain⟨q1,q2⟩:=List.getElem?_eq_some_iff.1 hi2;obtain⟨q3,q4⟩:=List.getElem?_eq_some_iff.1 hx;rw[q2,q4,Z68] at this;simp at this
    ·omega
   have hc:=Z0l (idx W x);rw[if_pos (by simp),hi,Z2l (by omega) (by omega),Z86 (by omega),sb,chkB (by rw[Zu,Zu,← hpi] at *;omega),← Z0p,sb,Z8 (by omega) (by omega),ih (pre++[x]) _ ((pre.length:Int)+1) (by simp[h1]) (by simp) (by rw[List.length_append,hpi];omega)];rw[if_neg (by simp;omega),if_pos (by omega),hpi,List.append_nil]
  ·have hne:pre.length≠idx W w:=fun h=>by rw[h,hi2] at hx;exact e (Option.some.inj hx).symm
   rw[if_neg (by simpa using e),sb,Z8 (by omega) (by omega),ih (pre++[x]) s (i+1) (by simp[h1]) (by simp;omega) (by omega)];congr 3;simp only[List.length_append,List.length_singleton];by_cases c:pre.length≤idx W w
   ·rw[if_pos (by omega),if_pos c]
   ·rw[if_neg (by omega),if_neg c]
theorem re_l5 (b:Z07) (p:List ByteArray) {W:List ByteArray} (hs:Z57 W) (hl:W.length≤2048) (j:Int) (hp:p.length≤32) (hw:∀ w∈p,w∈W):∀ (suf pre:List ByteArray) (s:List Bool) (i:Int),p=pre++suf→i=(pre.length:Int)→s.length+71*suf.length<500000000000 →
  Zc.l5 b p W j (strB s) i=some (strB (s++Z7z W suf)):=by
 intro suf
 induction suf with
 | nil=>intro pre s i h1 hi _;rw[Zc.l5,if_neg (by rw[h1];simp[hi])];simp[Z7z]
 | cons w suf ih =>
  intro pre s i h1 hi hsl;have hlen:p.length=pre.length+(suf.length+1):=by rw[h1];simp
  simp only[List.length_cons] at hsl;have hc:=Z0l (idx W w);rw[Zc.l5,if_pos (by simp;omega),re_l6 b p hs hl j i w (Z03 h1 hi) (hw w (by rw[h1];simp)) W [] s 0 rfl rfl (by omega),sb,if_pos (by simp),Z8 (by omega) (by omega),ih (pre++[w]) _ (i+1) (by simp[h1]) (by simp;omega) (by rw[List.length_append];omega)];simp[Z7z]
theorem re_l7 (b:Z07) (W:List ByteArray) (j:Int) (C:List (List Z6)) (hC:∀ c∈C,Chu c) (hl:C.length≤1000000):∀ (suf pre:List (List Z6)) (s:List Bool) (i:Int),C=pre++suf→i=(pre.length:Int)→s.length+3300000*suf.length<600000000000 →
  Zc.l7 b C W j (strB s) i=some (strB (s++Z9u suf)):=by
 intro suf
 induction suf with
 | nil=>intro pre s i h1 hi _;rw[Zc.l7,if_neg (by rw[h1];simp[hi])];simp[Z9u]
 | cons c suf ih =>
  intro pre s i h1 hi hs;have hlen:C.length=pre.length+(suf.length+1):=by rw[h1];simp
  have hc:=hC c (by rw[h1];simp);obtain⟨e1,⟨g,hX⟩,e3,e4⟩:=hc.enc;have ht:=hc.txt;obtain⟨x,f,e,hX2⟩:=renc_eq hc.cok hc.ne (fun s hs=>(hc.k s hs).fits);have:=hX.unique hX2;subst this;simp only[List.length_cons] at hs;rw[Zc.l7,if_pos (by simp;omega),Z03 h1 hi,sb,e,sb,rtext16 _ (by omega),sb,chkB (by rw[Zu,Zu];omega),← Z0p,Z8 (n:=i+1) (by omega) (by omega),ih (pre++[c]) _ (i+1) (by simp[h1]) (by simp;omega) (by rw[List.length_append];omega)];simp[Z9u]
theorem re_l4 (b:Z07) {W:List ByteArray} (hs:Z57 W) (hl:W.length≤2048) (hn:b.f3.length≤64) (hG:∀ r∈b.f3,RowG W r):∀ (suf pre:List Zh) (s:List Bool) (i:Int),b.f3=pre++suf→i=(pre.length:Int) →
  s.length+((suf.map (fun r=>r.f1.length)).sum*3300000+5000*suf.length)<300000000000→Zc.l4 b W (strB s) i=some (strB (s++suf.flatMap (rowB W))):=by
 intro suf
 induction suf with
 | nil=>intro pre s i h1 hi _;rw[Zc.l4,if_neg (by rw[h1];simp[hi])];simp
 | cons r suf ih =>
  intro pre s i h1 hi hsl;have hlen:b.f3.length=pre.length+(suf.length+1):=by rw[h1];simp
  simp only[List.length_cons,List.map_cons,List.sum_cons] at hsl;have hr:=hG r (by rw[h1];simp);have hln:=hr.k.n;have hrb:=hr.len;obtain⟨C,hC⟩:=cutX_ok r.f1 (by have:=hr.n;omega) hr.s;have hCl:=hC.len;have hrn:=hr.n;have c1:=Z0l (lab r.f0).length;have c2:=Zdt W (kw r.f0);have c3:=Ze5 hr.k;have c4:=Z0l C.length;have hfl:(kw r.f0).length=2*(lab r.f0).length:=flatP_len _;have hd:Int.tdiv ((kw r.f0).length:Int) 2=(((lab r.f0).length:Nat):Int):=by rw[Int.tdiv_eq_ediv_of_nonneg (by omega)];omega
  rw[Zc.l4,if_pos (by simp;omega),Z03 h1 hi,sb,parts16 hr.k,sb,hd,Z8 (n:=(((lab r.f0).length:Nat):Int)) (by omega) (by omega),Z2l (by omega) (by omega),Z86 (by omega),sb,chkB (by rw[Zu,Zu];omega),← Z0p];rw[re_l5 b (kw r.f0) hs hl i (by omega) hr.w (kw r.f0) [] _ 0 rfl rfl (by rw[List.length_append];omega),sb,sb,hC.d,sb,Z2l (by omega) (by omega),Z86 (by omega),sb,chkB (by rw[Zu,Zu];simp only[List.length_append];omega),← Z0p];rw[re_l7 b W i C hC.ok (by omega) C [] _ 0 rfl rfl (by simp only[List.length_append];omega),sb,Z8 (by omega) (by omega)];have hbits:s++cnt2 (lab r.f0).length++Z7z W (kw r.f0)++cnt2 C.length++Z9u C=s++rowB W r:=by
   rw[rowB,smpsB,hC.x];simp only[List.append_assoc]
  rw[hbits,ih (pre++[r]) _ (i+1) (by simp[h1]) (by simp;omega) (by rw[List.length_append];omega)];simp
theorem renc16 {b:Z07} (hz:BSz (Z6b b)) (hb:BlkOK (Z6b b)) {W:List ByteArray} (hT:Table (Z6b b) W) {x:List Int} {f:Nat} (hL:Laid x f (blkB (Z6b b) W)):Zc.f b=some (Zdl x):=by
 have hm:=hb.m;have hmem:∀ r∈b.f3,RowG W r:=rowG hz hb hT
 have h4:(b.f3.map fun r=>r.f1.length).sum≤50000:=hz.sum;have h5:b.f3.length≤64:=hb.len;have h6:=hT.len;have m1:0≤b.f2:=hm.1;have m2:b.f2≤4:=hm.2.1;have m3:0≤b.f0:=hm.2.2.1;have m4:b.f0≤1099511627776:=hm.2.2.2.1;obtain⟨n2,e2⟩:=Int.eq_ofNat_of_zero_le m1;obtain⟨n0,e0⟩:=Int.eq_ofNat_of_zero_le m3;have c1:=Z0l n2;have c2:=Z0l n0;have c3:=Z0l W.length;have c4:=Zce Z73 600 W (fun w hw=>by have:=Z72 w;have:=Z8h hz hb hT w hw;omega);have c5:=Z0l b.f3.length;have hbl:=blkB_len hz hb hT;unfold Zc.f;rw[rwords16 b h5 (keys16 hz hb) hT,sb,e2,e0,Z2l (n:=(n2:Int)) (by omega) (by omega),Z2l (n:=(n0:Int)) (by omega) (by omega),Z86 (by omega),sb,Z86 (by omega),sb,chkB (by rw[Zu,Zu];omega),Z2l (n:=(W.length:Int)) (by omega) (by omega),Z86 (by omega),sb,← Z0p,chkB (by rw[Zu,Zu,List.length_append];omega),← Z0p];rw[re_l3 b W h6 (Z8h hz hb hT) W [] _ 0 rfl rfl (by simp only[List.length_append];omega),sb,Z2l (n:=(b.f3.length:Int)) (by omega) (by omega),Z86 (by omega),sb,chkB (by rw[Zu,Zu];simp only[List.length_append];omega),← Z0p];rw[re_l4 b hT.up h6 h5 hmem b.f3 [] _ 0 rfl rfl (by simp only[List.length_append];omega),sb];have hbits:cnt2 n2++cnt2 n0++cnt2 W.length++W.flatMap Z73++cnt2 b.f3.length++b.f3.flatMap (rowB W)=blkB (Z6b b) W:=by
  show _=cnt2 b.f2.toNat++(cnt2 b.f0.toNat++(cnt2 W.length++(W.flatMap Z73++(cnt2 b.f3.length++b.f3.flatMap (rowB W)))));rw[e2,e0];simp only[List.append_assoc,Int.toNat_natCast]
 obtain⟨y,g,r1,r2⟩:=rbytes (blkB (Z6b b) W) (by omega);have:=hL.unique r2;subst this;have hll:=hL.len;have hlt:=hL.lt;have hby:Bys x:=Z8m hL;rw[hbits,r1,sb,w32m,rfour_eq (Nat.mod_lt _ (by decide)),four_mod,sb,chkB (by simp[Z4z]),chkB (by rw[Z4z];omega),rcrc_eq (bys_app (four_bys _) hby) (by rw[List.length_append,Z4z];omega),sb,rfour_eq (crcV_lt _),sb,chkB (by simp[Z4z]),chkB (by rw[List.length_append,Z4z,Z4z];omega)];rfl
variable {b:List Int}
theorem Z5b {a:Nat} {u z:List Bool} (ha:a≤8*b.length) (h:(Z0c b).drop a=u++z):(Z0c b).drop (a+u.length)=z∧a+u.length≤8*b.length:=by
 have hl:=congrArg List.length h;simp only[List.length_drop,Z1b,List.length_append] at hl;exact⟨by rw[← List.drop_drop,h,List.drop_left' rfl],by omega⟩
theorem br_l0 (hb:Src b) {W:List ByteArray} (hs:Z57 W) (hW:W.length≤2048) (t:Int×Int×Int) (l:List Z0d) (ht:t.1=(l.length:Int)) (hl:l.length≤16) (hm:∀ w∈Z3s l,w∈W) (z:List Bool):∀ (suf pre:List Z0d) (a:Nat) (i:Int),l=pre++suf→i=(pre.length:Int)→a≤8*b.length→(Z0c b).drop a=Z7z W (Z3s suf)++z →
  Z0r.l0 b W t (a:Int) 0 pre i=some (((a+(Z7z W (Z3s suf)).length:Nat):Int),0,l):=by
 intro suf
 induction suf with
 | nil =>
  intro pre a i h1 hi ha hd;rw[Z0r.l0,if_neg (by rw[ht,h1];simp[hi]),sb,if_neg (by simp)];rw[h1];simp[Z7z,Z3s]
 | cons x suf ih =>
  intro pre a i h1 hi ha hd;have hlen:l.length=pre.length+(suf.length+1):=by rw[h1];simp
  have m0:x.f0∈W:=hm _ (by rw[h1];simp[Z3s]);have m1:x.f1∈W:=hm _ (by rw[h1];simp[Z3s]);obtain⟨i0,j0⟩:=Z5y hs m0;obtain⟨i1,j1⟩:=Z5y hs m1;have e:Z7z W (Z3s (x::suf))=cnt2 (idx W x.f0)++(cnt2 (idx W x.f1)++Z7z W (Z3s suf)):=by simp[Z7z,Z3s]
  rw[e] at hd ⊢;rw[List.append_assoc,List.append_assoc] at hd;obtain⟨d1,a1⟩:=Z5b ha hd;obtain⟨d2,a2⟩:=Z5b a1 d1;have hw:i64.wrap ((W.length:Int)-(1:Int))=((W.length-1:Nat):Int):=by rw[Z8 (by omega) (by omega)];omega
  rw[Z0r.l0,if_pos (by rw[ht];simp;omega),err_ok,sb,sb,if_pos (by simp),hw,Z3r hb (by omega) (by omega) ha hd,sb];dsimp only;rw[Z3r hb (by omega) (by omega) a1 d1,sb];dsimp only;rw[err_ok,sb,if_pos (by simp),Z69 rfl j0,sb,Z69 rfl j1,sb,chkB (by simp;omega),sb,Z8 (by omega) (by omega)];rw[ih (pre++[(⟨x.f0,x.f1⟩:Z0d)]) _ (i+1) (by simp[h1]) (by simp;omega) a2 d2];congr 3;simp only[List.length_append];omega
theorem chu_dec {c:List Z6} (h:Chu c):Z3n.f (Z2d (Z7a (encX c)))=some (c,0):=by
 obtain⟨_,⟨g,hL⟩,_,c3⟩:=h.enc;rw[Zcy (Z8m hL)];exact(dec_fwd (smp_src hL c3) h.cok h.ne h.k h.h0 (List.replicate g false) hL.bits).2 g hL.lt rfl
theorem br_l1 (hb:Src b) (k:ByteArray) (t:Int×Int×Int) (C:List (List Z6)) (ht:t.1=(C.length:Int)) (hC:∀ c∈C,Chu c) (hn:C.flatten.length≤100000) (hl:C.length≤100000) (z:List Bool):∀ (suf pre:List (List Z6)) (a:Nat) (i:Int),C=pre++suf→i=(pre.length:Int)→a≤8*b.length→(Z0c b).drop a=Z9u suf++z →
  Z0r.l1 b k t (a:Int) 0 pre.flatten i=some (C.flatten,((a+(Z9u suf).length:Nat):Int),0):=by
 intro suf
 induction suf with
 | nil =>
  intro pre a i h1 hi ha hd;rw[Z0r.l1,if_neg (by rw[ht,h1];simp[hi]),sb,if_neg (by simp),h1];simp[Z9u]
 | cons c suf ih =>
  intro pre a i h1 hi ha hd;have hlen:C.length=pre.length+(suf.length+1):=by rw[h1];simp
  have hc:=hC c (by rw[h1];simp);have e:Z9u (c::suf)=Z73 (Z7a (encX c))++Z9u suf:=by simp[Z9u]
  rw[e] at hd ⊢;rw[List.append_assoc] at hd;obtain⟨d1,a1⟩:=Z5b ha hd;have hfl:C.flatten.length=pre.flatten.length+(c.length+suf.flatten.length):=by rw[h1];simp
  rw[Z0r.l1,if_pos (by rw[ht];simp;omega),err_ok,sb,sb,if_pos (by simp),Zfb hb ha hd,sb];dsimp only;rw[chu_dec hc,sb];dsimp only;rw[chkB (by omega),Z8 (by omega) (by omega)];have:=ih (pre++[c]) _ (i+1) (by simp[h1]) (by simp;omega) a1 d1;rw[List.flatten_append,show [c].flatten=c by simp] at this;rw[this];congr 3;rw[List.length_append];omega
theorem row_fwd (hb:Src b) {W:List ByteArray} (hs:Z57 W) (hW:W.length≤2048) {r:Zh} (hr:RowG W r) {a:Nat} {z:List Bool} (ha:a≤8*b.length) (hd:(Z0c b).drop a=rowB W r++z) :
  Z0r.f b (a:Int) 0 W=some (r,((a+(rowB W r).length:Nat):Int),0):=by
 obtain⟨C,hC⟩:=cutX_ok r.f1 (by have:=hr.n;omega) hr.s;have hCl:=hC.len;have hn:=hr.n;have hln:=hr.k.n;have hbits:rowB W r=cnt2 (lab r.f0).length++(Z7z W (kw r.f0)++(cnt2 C.length++Z9u C)):=by rw[rowB,smpsB,hC.x]
 rw[hbits] at hd ⊢;rw[List.append_assoc,List.append_assoc,List.append_assoc] at hd;obtain⟨d1,a1⟩:=Z5b ha hd;obtain⟨d2,a2⟩:=Z5b a1 d1;obtain⟨d3,a3⟩:=Z5b a2 d2;have hz:=Zbk hr.k.c;have hkey:Z12.f (lab r.f0)=some r.f0:=by
  rw[lkey _ hz.1 (Z91 hz.2)];congr 1;apply ext_L;rw[hr.k.l];show(keyL (lab r.f0)).toArray.toList=_;rw[Z6d];rfl
 unfold Z0r.f;rw[show(16:Int)=((16:Nat):Int) from rfl,Z3r hb hln (by omega) ha hd,sb];dsimp only;rw[br_l0 hb hs hW ((((lab r.f0).length:Nat):Int),((a+(cnt2 (lab r.f0).length).length:Nat):Int),0) (lab r.f0) rfl hln hr.w _ (lab r.f0) [] _ 0 rfl rfl a1 d1,sb];dsimp only;rw[hkey,sb,show(65536:Int)=((65536:Nat):Int) from rfl];rw[show Z7z W (Z3s (lab r.f0))=Z7z W (kw r.f0) from rfl,Z3r hb (by omega) (by omega) a2 d2,sb];dsimp only;have:=br_l1 hb r.f0 ((C.length:Int),((a+(cnt2 (lab r.f0).length).length+(Z7z W (kw r.f0)).length+(cnt2 C.length).length:Nat):Int),0) C rfl hC.ok (by rw[hC.flat];omega) (by omega) z C [] _ 0 rfl rfl a3 d3;rw[show([]:List (List Z6)).flatten=[] from rfl] at this;rw[this,sb];dsimp only;rw[hC.flat];congr 4;simp only[List.length_append];omega
theorem bd_l0 (hb:Src b) (a0:List Int) (t1:(List Int)×(List Int)×Int) (h1':t1.1=b) (t2 t3 t4:Int×Int×Int) {W:List ByteArray} (ht:t4.1=(W.length:Int)) (hW:W.length≤2048) (z:List Bool):∀ (suf pre:List ByteArray) (a:Nat) (i:Int),W=pre++suf→i=(pre.length:Int)→a≤8*b.length→(Z0c b).drop a=suf.flatMap Z73++z →
  Z0x.l0 a0 t1 t2 t3 t4 (a:Int) 0 pre i=some (((a+(suf.flatMap Z73).length:Nat):Int),0,W):=by
 intro suf
 induction suf with
 | nil =>
  intro pre a i h1 hi ha hd;rw[Z0x.l0,if_neg (by rw[ht,h1];simp[hi]),sb,if_neg (by simp),h1];simp
 | cons w suf ih =>
  intro pre a i h1 hi ha hd;have hlen:W.length=pre.length+(suf.length+1):=by rw[h1];simp
  rw[List.flatMap_cons] at hd ⊢;rw[List.append_assoc] at hd;obtain⟨d1,a1⟩:=Z5b ha hd;rw[Z0x.l0,if_pos (by rw[ht];simp;omega),h1',err_ok,sb,sb,if_pos (by simp),Zfb hb ha hd,sb];dsimp only;rw[chkB (by simp;omega),Z8 (by omega) (by omega),ih (pre++[w]) _ (i+1) (by simp[h1]) (by simp;omega) a1 d1];congr 3;rw[List.length_append];omega
theorem bd_l1 (hb:Src b) (a0:List Int) (t1:(List Int)×(List Int)×Int) (h1':t1.1=b) (t2 t3 t4:Int×Int×Int) {W:List ByteArray} (hs:Z57 W) (hW:W.length≤2048) {l:List Zh} (ht:t4.1=(l.length:Int)) (hl:l.length≤64) (hG:∀ r∈l,RowG W r) (z:List Bool):∀ (suf pre:List Zh) (a:Nat) (i:Int),l=pre++suf→i=(pre.length:Int)→a≤8*b.length→(Z0c b).drop a=suf.flatMap (rowB W)++z →
  Z0x.l1 a0 t1 t2 t3 t4 W (a:Int) 0 pre i=some (((a+(suf.flatMap (rowB W)).length:Nat):Int),0,l):=by
 intro suf
 induction suf with
 | nil =>
  intro pre a i h1 hi ha hd;rw[Z0x.l1,if_neg (by rw[ht,h1];simp[hi]),sb,if_neg (by simp),h1];simp
 | cons r suf ih =>
  intro pre a i h1 hi ha hd;have hlen:l.length=pre.length+(suf.length+1):=by rw[h1];simp
  rw[List.flatMap_cons] at hd ⊢;rw[List.append_assoc] at hd;obtain⟨d1,a1⟩:=Z5b ha hd;rw[Z0x.l1,if_pos (by rw[ht];simp;omega),h1',err_ok,sb,sb,if_pos (by simp),row_fwd hb hs hW (hG r (by rw[h1];simp)) ha hd,sb];dsimp only;rw[chkB (by simp;omega),Z8 (by omega) (by omega),ih (pre++[r]) _ (i+1) (by simp[h1]) (by simp;omega) a1 d1];congr 3;rw[List.length_append];omega
theorem bdec_fwd {b:Z2} (hz:BSz b) (hb:BlkOK b) {W:List ByteArray} (hT:Table b W) {x:List Int} {f:Nat} (hL:Laid x f (blkB b W)) (hE:Zl.f b=some (Zdl x,0)) (hxl:x.length<900000000):Z0x.f (Zdl x)=some (b,0):=by
 have hm:=hb.m;have hx:Src x:=⟨hL.byte,by omega⟩
 have h6:=hT.len;have h5:=hb.len;have d0:(Z0c x).drop 0=blkB b W++List.replicate f false:=by rw[List.drop_zero];exact hL.bits
 unfold blkB at d0;obtain⟨n2,e2⟩:=Int.eq_ofNat_of_zero_le hm.1;obtain⟨n0,e0⟩:=Int.eq_ofNat_of_zero_le hm.2.2.1;have m2:=hm.2.1;have m4:=hm.2.2.2.1;rw[e2,e0,Int.toNat_natCast,Int.toNat_natCast] at d0;simp only[List.append_assoc] at d0;obtain⟨d1,a1⟩:=Z5b (Nat.zero_le _) d0;obtain⟨d2,a2⟩:=Z5b a1 d1;obtain⟨d3,a3⟩:=Z5b a2 d2;obtain⟨d4,a4⟩:=Z5b a3 d3;obtain⟨d5,a5⟩:=Z5b a4 d4;obtain⟨d6,a6⟩:=Z5b a5 d5;unfold Z0x.f;rw[open_fwd (Z8m hL) hxl,sb,if_neg (by simp)];dsimp only;rw[show Z5e.f x=some () from rfl,sb,show(4:Int)=((4:Nat):Int) from rfl];have s1:=Z3r hx (n:=n2) (m:=4) (by omega) (by omega) (Nat.zero_le _) d0;rw[show((0:Nat):Int)=(0:Int) from rfl] at s1;rw[s1,sb];dsimp only;rw[show(1099511627776:Int)=((1099511627776:Nat):Int) from rfl,Z3r hx (by omega) (by omega) a1 d1,sb];dsimp only;rw[width_ok (by omega) (by omega),sb,show(65536:Int)=((65536:Nat):Int) from rfl,Z3r hx (by omega) (by omega) a2 d2,sb];dsimp only;rw[bd_l0 hx (Zdl x) (x,[],0) rfl _ _ _ rfl hT.len _ W [] _ 0 rfl rfl a3 d3,sb];dsimp only;rw[show(64:Int)=((64:Nat):Int) from rfl,Z3r hx h5 (by omega) a4 d4,sb];dsimp only;rw[bd_l1 hx (Zdl x) (x,[],0) rfl _ _ _ hT.up hT.len rfl h5 (rowG hz hb hT) _ b.f1 [] _ 0 rfl rfl a5 d5,sb];dsimp only;obtain⟨a',he⟩:=end_ok hx hL.lt a6 d6;rw[he,sb];dsimp only;rw[if_neg (by simp),sb];rw[if_neg (by simp)];have w4:=wd_eq (k:=(n2:Int)) (by omega) (by omega);unfold Za.wd at w4;have hw:=Zb2 (n2:Int);rw[show((64:Nat):Int)=(64:Int) from rfl,show((4:Nat):Int)=(4:Int) from rfl,w4,Z8 (by omega) (by omega)];have hbe:(⟨⟨(n0:Int),(n0:Int)+wide (n2:Int),(n2:Int)⟩,b.f1⟩:Z2)=b:=by
  obtain⟨⟨lo,hi,lv⟩,rows⟩:=b;have h7:=hm.2.2.2.2.2;dsimp only at *;subst e2 e0;rw[h7]
 rw[hbe,hE,sb];dsimp only;rw[if_neg (by simp),eqbytes _ _ (by rw[sealB_len];omega),sb,decide_eq_true rfl,sb];rfl
end Go.Proofs.YtpoihfcehejgfaaGreat.PvGS1
namespace Go.Proofs.YtpoihfcehejgfaaGreat.PvGS1
open Go Go.Pv Go.Pv.GS Go.IntKind
def smpN (l:List Z6):Nat:=(l.map fun s=>s.f1.f6.length+s.f1.f7.length+1).sum
def rowN (r:Zh):Nat:=r.f0.size+1+smpN r.f1
def Z75 (l:List Zh):Nat:=(l.map rowN).sum
theorem smpN_le:∀ (l:List Z6),(∀ s∈l,s.f1.f6.length≤1048576∧s.f1.f7.length≤1048576)→smpN l≤2097153*l.length
 | [],_=>by simp[smpN]
 | s::l,h=>by
  have h1:=h s (by simp);have h2:=smpN_le l (fun x hx=>h x (by simp[hx]));simp only[smpN,List.map_cons,List.sum_cons,List.length_cons] at *;omega
theorem len_smpN:∀ (l:List Z6),l.length≤smpN l
 | []=>by simp[smpN]
 | s::l=>by
  have h2:=len_smpN l;simp only[smpN,List.map_cons,List.sum_cons,List.length_cons] at *;omega
theorem rowN_le {r:Zh} (h:Z5m r):rowN r≤2199024304129+1048577:=by
 have h1:=smpN_le r.f1 (fun s hs=>⟨((h.r1.2 s hs).r1.r6).1,((h.r1.2 s hs).r1.r7).1⟩);have h2:=h.r1.1;have h3:=h.r0;have:2097153*r.f1.length≤2097153*1048576:=Nat.mul_le_mul_left _ h2;unfold rowN;omega
theorem lightN_le:∀ (l:List Zh),(∀ r∈l,Z5m r)→Z75 l≤2200000000000*l.length
 | [],_=>by simp[Z75]
 | r::l,h=>by
  have h1:=rowN_le (h r (by simp));have h2:=lightN_le l (fun x hx=>h x (by simp[hx]));simp only[Z75,List.map_cons,List.sum_cons,List.length_cons] at *;omega
theorem li_l1 (l:List Zh) (r:Zh) (j:Int) (hl:r.f1.length≤1048576) (hb:∀ s∈r.f1,s.f1.f6.length≤1048576∧s.f1.f7.length≤1048576):∀ (suf pre:List Z6) (x:Nat) (i:Int),r.f1=pre++suf→i=(pre.length:Int)→x+smpN suf<4000000000000000000 →
  Z20.l1 l r j (x:Int) i=some ((x+smpN suf:Nat):Int):=by
 intro suf
 induction suf with
 | nil=>intro pre x i h1 hi _;rw[Z20.l1,if_neg (by rw[h1];simp[hi])];simp[smpN]
 | cons s suf ih =>
  intro pre x i h1 hi hx;have hlen:r.f1.length=pre.length+(suf.length+1):=by rw[h1];simp
  have hs:=hb s (by rw[h1];simp);have e:smpN (s::suf)=s.f1.f6.length+s.f1.f7.length+1+smpN suf:=by simp[smpN]
  rw[e] at hx ⊢;rw[Z20.l1,if_pos (by simp;omega),Z03 h1 hi,sb,Z8 (n:=(s.f1.f6.length:Int)+(s.f1.f7.length:Int)) (by omega) (by omega),Z8 (n:=(s.f1.f6.length:Int)+(s.f1.f7.length:Int)+1) (by omega) (by omega),Z8 (n:=(x:Int)+_) (by omega) (by omega),Z8 (n:=i+1) (by omega) (by omega)];have:=ih (pre++[s]) (x+(s.f1.f6.length+s.f1.f7.length+1)) (i+1) (by simp[h1]) (by simp;omega) (by omega);rw[show(x:Int)+((s.f1.f6.length:Int)+(s.f1.f7.length:Int)+1)=((x+(s.f1.f6.length+s.f1.f7.length+1):Nat):Int) by omega,this];congr 2;omega
theorem li_l0 (l:List Zh) (hl:l.length≤1048576) (hR:∀ r∈l,Z5m r):∀ (suf pre:List Zh) (x:Nat) (i:Int),l=pre++suf→i=(pre.length:Int)→x+Z75 suf<4000000000000000000→Z20.l0 l (x:Int) i=some ((x+Z75 suf:Nat):Int):=by
 intro suf
 induction suf with
 | nil=>intro pre x i h1 hi _;rw[Z20.l0,if_neg (by rw[h1];simp[hi])];simp[Z75]
 | cons r suf ih =>
  intro pre x i h1 hi hx;have hlen:l.length=pre.length+(suf.length+1):=by rw[h1];simp
  have hr:=hR r (by rw[h1];simp);have hk:=hr.r0;have e:Z75 (r::suf)=rowN r+Z75 suf:=by simp[Z75]
  have e2:rowN r=r.f0.size+1+smpN r.f1:=rfl;rw[e,e2] at hx;rw[e,e2,Z20.l0,if_pos (by simp;omega),Z03 h1 hi,sb,Z8 (n:=(r.f0.size:Int)+1) (by omega) (by omega),Z8 (n:=(x:Int)+_) (by omega) (by omega)];have:=li_l1 l r i hr.r1.1 (fun s hs=>⟨((hr.r1.2 s hs).r1.r6).1,((hr.r1.2 s hs).r1.r7).1⟩) r.f1 [] (x+(r.f0.size+1)) 0 rfl rfl (by omega);rw[show(x:Int)+((r.f0.size:Int)+1)=((x+(r.f0.size+1):Nat):Int) by omega,this,sb,Z8 (n:=i+1) (by omega) (by omega)];rw[ih (pre++[r]) (x+(r.f0.size+1)+smpN r.f1) (i+1) (by simp[h1]) (by simp;omega) (by omega)];congr 2;omega
theorem light16 (l:List Zh) (hl:l.length≤1048576) (hR:∀ r∈l,Z5m r):Z20.f l=some (decide (Z75 l≤1200)):=by
 have h:=lightN_le l hR;have h2:2200000000000*l.length≤2200000000000*1048576:=Nat.mul_le_mul_left _ hl;unfold Z20.f;have e:=li_l0 l hl hR l [] 0 0 rfl rfl (by omega);rw[show((0:Nat):Int)=(0:Int) from rfl] at e;rw[e,sb,Nat.zero_add];congr 1;by_cases c:Z75 l≤1200
 ·rw[decide_eq_true c,decide_eq_true (by omega)]
 ·rw[decide_eq_false c,decide_eq_false (by omega)]
theorem Zbb:∀ (l:List Zh),l.length≤Z75 l∧(l.map fun r=>r.f1.length).sum≤Z75 l
 | []=>by simp[Z75]
 | r::l=>by
  have h:=Zbb l;have h2:=len_smpN r.f1;simp only[Z75,rowN,List.map_cons,List.sum_cons,List.length_cons] at *;omega
theorem bsz_of {l:List Zh} (hR:∀ r∈l,Z5m r) (hl:Z75 l≤1200) (m:Zt):BSz ⟨m,l⟩:=by
 have h:=Zbb l;refine⟨fun r hr => ?_,by dsimp only;omega,by dsimp only;omega⟩;have q:=hR r hr;exact⟨by have:=q.r0;omega,by have:=q.r1.1;omega,fun s hs=>⟨fits_of (q.r1.2 s hs).r1,by have:=(q.r1.2 s hs).r1.r6.1;omega,by have:=(q.r1.2 s hs).r1.r7.1;omega⟩⟩
theorem to_l0_16 (b:Z07) (hl:b.f3.length≤100000000):∀ (suf pre:List Zh) (i:Int),b.f3=pre++suf→i=(pre.length:Int)→Z4h.l0 b pre i=some b.f3:=by
 intro suf
 induction suf with
 | nil=>intro pre i h1 hi;rw[Z4h.l0,if_neg (by rw[h1];simp[hi]),h1];simp
 | cons r suf ih =>
  intro pre i h1 hi;have hlen:b.f3.length=pre.length+(suf.length+1):=by rw[h1];simp
  rw[Z4h.l0,if_pos (by simp;omega),Z03 h1 hi,sb,chkB (by simp;omega),Z8 (by omega) (by omega)];exact ih (pre++[r]) (i+1) (by simp[h1]) (by simp;omega)
theorem to16 (b:Z07) (hl:b.f3.length≤100000000):Z4h.f b=some (Z6b b):=by
 unfold Z4h.f;rw[to_l0_16 b hl b.f3 [] 0 rfl rfl,sb];rfl
def ofBlk (b:Z2):Z07:=⟨b.f0.f0,b.f0.f1,b.f0.f2,b.f1⟩
theorem fr_l0_16 (b:Z2) (hl:b.f1.length≤100000000):∀ (suf pre:List Zh) (i:Int),b.f1=pre++suf→i=(pre.length:Int)→Z42.l0 b pre i=some b.f1:=by
 intro suf
 induction suf with
 | nil=>intro pre i h1 hi;rw[Z42.l0,if_neg (by rw[h1];simp[hi]),h1];simp
 | cons r suf ih =>
  intro pre i h1 hi;have hlen:b.f1.length=pre.length+(suf.length+1):=by rw[h1];simp
  rw[Z42.l0,if_pos (by simp;omega),Z03 h1 hi,sb,chkB (by simp;omega),Z8 (by omega) (by omega)];exact ih (pre++[r]) (i+1) (by simp[h1]) (by simp;omega)
theorem fr16 (b:Z2) (hl:b.f1.length≤100000000):Z42.f b=some (ofBlk b):=by
 unfold Z42.f;rw[fr_l0_16 b hl b.f1 [] 0 rfl rfl,sb];rfl
theorem same16_l0 (a:List Zh) (hl:a.length≤100000000) (hs:∀ r∈a,r.f1.length<1000000000000∧∀ s∈r.f1,s.f1.f6.length<1000000000000∧s.f1.f7.length<1000000000000):∀ (suf pre:List Zh) (i:Int),a=pre++suf→i=(pre.length:Int)→Z41.l0 a a i=some (.inr ()):=by
 intro suf
 induction suf with
 | nil=>intro pre i h1 hi;rw[Z41.l0,if_neg (by rw[h1];simp[hi])]
 | cons r suf ih =>
  intro pre i h1 hi;have hlen:a.length=pre.length+(suf.length+1):=by rw[h1];simp
  have hr:=hs r (by rw[h1];simp);rw[Z41.l0,if_pos (by simp;omega),Z03 h1 hi,sb,sb,if_neg (by simp),same9_eq r.f1 r.f1 hr.1 hr.2,sb,decide_eq_true rfl,sb,if_neg (by simp),Z8 (by omega) (by omega)];exact ih (pre++[r]) (i+1) (by simp[h1]) (by simp;omega)
theorem same16 (a:List Zh) (hl:a.length≤100000000) (hs:∀ r∈a,r.f1.length<1000000000000∧∀ s∈r.f1,s.f1.f6.length<1000000000000∧s.f1.f7.length<1000000000000):Z41.f a a=some true:=by
 unfold Z41.f;rw[if_neg (by simp),same16_l0 a hl hs a [] 0 rfl rfl,sb]
def lev (k:Int):Int:=if k≤0 then 0 else if k≥4 then 4 else k
theorem wd_any (k:Int):Za.wd k=wide (lev k):=by
 have hc:(if(if(4:Int)<k then(4:Int) else k)>(0:Int) then(if(4:Int)<k then(4:Int) else k) else(0:Int))=lev k:=by
  unfold lev;split<;>split<;>(try split)<;>omega
 have h0:0≤lev k∧lev k≤4:=by unfold lev;split<;>(try split)<;>omega
 have e:=wd_eq h0.1 h0.2;rw[← e];unfold Za.wd;rw[hc];have hc2:(if(if(4:Int)<lev k then(4:Int) else lev k)>(0:Int) then(if(4:Int)<lev k then(4:Int) else lev k) else(0:Int))=lev k:=by
  split<;>split<;>omega
 rw[hc2]
theorem width_any (k:Int):Z25.f k=some ():=by
 have hc:(if(if(4:Int)<k then(4:Int) else k)>(0:Int) then(if(4:Int)<k then(4:Int) else k) else(0:Int))=lev k:=by
  unfold lev;split<;>split<;>(try split)<;>omega
 have h0:0≤lev k∧lev k≤4:=by unfold lev;split<;>(try split)<;>omega
 unfold Z25.f;rw[hc,Z2l (n:=lev k) (by omega) (by omega),Z2l (by omega) (by omega),chkB (by omega)]
theorem low_any (k t:Int):Z53.f k t=some ():=by
 unfold Z53.f;rw[width_any,sb];rw[chkB (show(Za.wd k≠0) by rw[wd_any];have:=Zb2 (lev k);omega)]
theorem rwidth_any (k:Int):Z10.f k=some (wide (lev k)):=by
 have h0:0≤lev k∧lev k≤4:=by unfold lev;split<;>(try split)<;>omega
 rw[← Zdm h0.1 h0.2,rwidth,rwidth];have:(min k 4).toNat=(min (lev k) 4).toNat:=by unfold lev;split<;>(try split)<;>omega
 rw[this]
theorem enc_bad16 {b:Z2} (hl:b.f1.length<1000000000) (hb:∀ r∈b.f1,RowB r) (h:blkC b≠0):Zl.f b=some ([],blkC b):=by
 unfold Zl.f;rw[check16 b hl hb,sb,if_pos (by simpa using h)]
theorem blkB_len2 {b:Z2} (hz:BSz b) (hb:BlkOK b) {W:List ByteArray} (hT:Table b W):(blkB b W).length≤(b.f1.map fun r=>r.f1.length).sum*3300000+2000000:=by
 have h1:=Zat W b.f1 (rowG hz hb hT);have h2:=Zce Z73 600 W (fun w hw=>by have:=Z72 w;have:=Z8h hz hb hT w hw;omega);have h3:=hT.len;have h5:=hb.len;have:=Z0l b.f0.f2.toNat;have:=Z0l b.f0.f0.toNat;have:=Z0l W.length;have:=Z0l b.f1.length;simp only[blkB,List.length_append];omega
theorem Zev (a0:Z07) (a1 a2:Int) (R0:Zfj a0) (R1:I64 a1) (R2:I64 a2):Z4i.f a0 a1 a2=some true:=by
 have hR:=R0.r3.2;unfold Z4i.f;rw[light16 a0.f3 R0.r3.1 hR,sb];by_cases hL:Z75 a0.f3≤1200
 case neg=>rw[decide_eq_false hL,if_pos (show(!false)=true from rfl),awake16,sb]
 rw[decide_eq_true hL,if_neg (by simp)];have hz:BSz (Z6b a0):=bsz_of hR hL _;have hlen:a0.f3.length≤1200:=by have:=(Zbb a0.f3).1;omega
 rw[rcheck16 a0 (by omega) hz.rows,sb,to16 a0 (by omega),sb];have hse:(⟨(⟨((Z6b a0).f0).f0,((Z6b a0).f0).f1,((Z6b a0).f0).f2⟩:Zt),(Z6b a0).f1⟩:Z2)=Z6b a0:=rfl;rw[hse];obtain⟨x,e,hE,hE0,hE1⟩:∃ (x:List Int) (e:Int),Zl.f (Z6b a0)=some (x,e)∧e=blkC (Z6b a0)∧(blkC (Z6b a0)≠0→x=[]):=by
  by_cases h:blkC (Z6b a0)=0
  ·obtain⟨W,x,f,hT,hLd,hE⟩:=enc16 hz ((blkC_ok _).1 h)
   exact⟨_,_,hE,h.symm,fun g=>absurd h g⟩
  ·exact⟨_,_,enc_bad16 hz.len hz.rows h,rfl,fun _=>rfl⟩
 subst hE0;have w1:=wd_any a1;unfold Za.wd at w1;have hwp:=Zb2 (lev a1);rw[hE,sb,sb];rw[hse,check16 _ hz.len hz.rows,sb,if_neg (by simp),if_neg (by simp),width_any,sb,rwidth_any,sb,w1,sb,if_neg (by simp)];have hlow:((if(decide (a2≥(0:Int)))=true then((Z53.f a1 a2)>>=fun t7519=>((if(decide ((i64.wrap (a2-(Int.tmod a2 (wide (lev a1)))))>a2))=true then(some true) else(if(decide ((i64.wrap (a2-(Int.tmod a2 (wide (lev a1)))))<(0:Int)))=true then(some true) else((some (wide (lev a1)))>>=fun t7531=>if(decide ((i64.wrap (a2-(i64.wrap (a2-(Int.tmod a2 (wide (lev a1)))))))≥t7531))=true then(some true) else((some (wide (lev a1)))>>=fun t7534=>(chk (t7534≠0))>>=fun _=>some ((Int.tmod (i64.wrap (a2-(Int.tmod a2 (wide (lev a1))))) t7534) != (0:Int)))))):Option (Bool))>>=fun x7537=>if x7537=true then(some (.inl false)) else(some (.inr ()))) else(some (.inr ()))):Option (Bool ⊕ Unit))=some (.inr ()):=by
  by_cases h:a2≥0
  ·rw[if_pos (decide_eq_true h),low_any,sb,Int.tmod_eq_emod_of_nonneg h]
   have h1:=Int.emod_nonneg a2 (b:=wide (lev a1)) (by omega);have h2:=Int.emod_lt_of_pos a2 (b:=wide (lev a1)) hwp.1;have h3:=Int.mul_ediv_add_emod a2 (wide (lev a1));have h4:0≤wide (lev a1)*(a2 / wide (lev a1)):=Int.mul_nonneg (by omega) (Int.ediv_nonneg h (by omega));have h5:=R2.2;rw[Z8 (n:=a2-a2 % wide (lev a1)) (by omega) (by omega),if_neg (by simp;omega),if_neg (by simp;omega),sb,Z8 (by omega) (by omega),if_neg (by simp;omega),sb,chkB (by omega),Int.tmod_eq_emod_of_nonneg (by omega)];have h6:(a2-a2 % wide (lev a1)) % wide (lev a1)=0:=by
    rw[show a2-a2 % wide (lev a1)=wide (lev a1)*(a2 / wide (lev a1)) by omega];exact Int.mul_emod_right _ _
   rw[h6];rfl
  ·rw[if_neg (by simpa using h)]
 rw[hlow,sb];dsimp only;by_cases h:blkC (Z6b a0)=0
 case neg =>
  rw[if_pos (by simpa using h),awake16,sb,if_pos rfl,hE1 h];rfl
 rw[if_neg (by simpa using h)];have hb:=(blkC_ok _).1 h;obtain⟨W,y,f,hT,hLd,hE2⟩:=enc16 hz hb;rw[hE2] at hE;obtain⟨rfl,_⟩:=Prod.mk.inj (Option.some.inj hE);have hsum:(a0.f3.map fun r=>r.f1.length).sum≤1200:=by have:=(Zbb a0.f3).2;omega
 have hbl:=blkB_len2 hz hb hT;rw[show(Z6b a0).f1=a0.f3 from rfl] at hbl;have hll:=hLd.len;have hlt:=hLd.lt;rw[bdec_fwd hz hb hT hLd hE2 (by omega),sb];rw[show(⟨(⟨((Z6b a0,(0:Int)).1.f0).f0,((Z6b a0,(0:Int)).1.f0).f1,((Z6b a0,(0:Int)).1.f0).f2⟩:Zt),((Z6b a0,(0:Int)).1).f1⟩:Z2)=Z6b a0 from rfl];rw[fr16 (Z6b a0) (by show a0.f3.length≤_;omega),sb,awake16,sb,if_pos rfl,renc16 hz hb hT hLd,sb];have hsame:=same16 a0.f3 (by omega) (fun r hr=>⟨by have:=(hR r hr).r1.1;omega,fun s hs=>⟨by have:=((hR r hr).r1.2 s hs).r1.r6.1;omega,by have:=((hR r hr).r1.2 s hs).r1.r7.1;omega⟩⟩);have hof:ofBlk (Z6b a0)=a0:=rfl;rw[hof];rw[if_pos (by simp),if_pos (by simp),if_pos (by simp),if_pos (by simp),if_pos (by simp),hsame];rfl
end Go.Proofs.YtpoihfcehejgfaaGreat.PvGS1
