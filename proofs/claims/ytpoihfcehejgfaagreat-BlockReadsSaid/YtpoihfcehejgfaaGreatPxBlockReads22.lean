import Derived.Test.YtpoihfcehejgfaaGreatPxBlockReads21
set_option linter.unusedVariables false
set_option linter.unusedSimpArgs false
set_option maxRecDepth 10000
namespace Go.Proofs.YtpoihfcehejgfaaGreat.PvGS2
open Go Go.Pv Go.Pv.GS Go.IntKind
def four (n:Nat):List Int:=[((n % 256:Nat):Int),((n / 256 % 256:Nat):Int),((n / 65536 % 256:Nat):Int),((n / 16777216 % 256:Nat):Int)]
theorem four_bys (n:Nat):Bys (four n):=by
 intro x hx;simp only[four,List.mem_cons,List.not_mem_nil,or_false] at hx;rcases hx with rfl | rfl | rfl | rfl<;>omega
theorem Z49 (n:Nat):(four n).length=4:=rfl
def sealB (x:List Int):List Int:=four x.length++four (crcV (four x.length++x))++x
theorem sealB_len (x:List Int):(sealB x).length=x.length+8:=by simp[sealB,Z49];omega
theorem bys_app {a b:List Int} (ha:Bys a) (hb:Bys b):Bys (a++b):=fun x hx=>(List.mem_append.1 hx).elim (ha x) (hb x)
theorem four_eq (n:Nat):Z5t.f (n:Int)=some (four n):=by
 unfold Z5t.f;rw[show(256:Int)=((256:Nat):Int) from rfl,show(65536:Int)=((65536:Nat):Int) from rfl,show(16777216:Int)=((16777216:Nat):Int) from rfl,fdivN,fdivN,fdivN,w8,w8,w8,w8];rfl
theorem sum_of {l:List (List Int)} (h:∀ x∈l,Bys x) (hl:l.length≤1000) (hn:∀ x∈l,x.length≤100000000000):Z6n.f l=some (crcV l.flatten:Int):=by
 unfold Z6n.f;rw[chkB ⟨by omega,fun x hx=>by have:=hn x hx;omega⟩,crcO_eq l h]
theorem sum_two {a b:List Int} (ha:Bys a) (hb:Bys b) (hal:a.length≤100000000000) (hbl:b.length≤100000000000):Z6n.f [a,b]=some (crcV (a++b):Int):=by
 have:=sum_of (l:=[a,b]) (fun x hx=>by
  simp only[List.mem_cons,List.not_mem_nil,or_false] at hx;rcases hx with rfl | rfl
  ·exact ha
  ·exact hb) (by simp) (fun x hx=>by
  simp only[List.mem_cons,List.not_mem_nil,or_false] at hx;rcases hx with rfl | rfl
  ·exact hal
  ·exact hbl)
 rw[this,show [a,b].flatten=a++b by simp]
theorem w32m (n:Nat):u32.wrap (n:Int)=((n % 4294967296:Nat):Int):=by
 have e:u32.wrap (n:Int)=(n:Int) % 4294967296:=by simp[IntKind.wrap,IntKind.signed,IntKind.bits]
 rw[e];omega
theorem four_mod (n:Nat):four (n % 4294967296)=four n:=by
 unfold four;rw[show n % 4294967296 % 256=n % 256 by omega,show n % 4294967296 / 256 % 256=n / 256 % 256 by omega,show n % 4294967296 / 65536 % 256=n / 65536 % 256 by omega,show n % 4294967296 / 16777216 % 256=n / 16777216 % 256 by omega]
theorem seal_eq {x:List Int} (h:Bys x) (hl:x.length<100000000000):Z74.f x=some (sealB x):=by
 unfold Z74.f;rw[w32m,four_eq,four_mod,sb,chkB (by simp[Z49]),sum_two (four_bys _) h (by simp[Z49]) (by omega),sb,four_eq,sb,chkB (by simp[Z49]),chkB (by simp[Z49];omega)];rfl
theorem or8 {n b:Nat} (hn:n<16777216) (hb:b<256):u32.wrap (((BitVec.toNat (BitVec.ofInt 32 (u32.wrap ((n:Int)*256)) ||| BitVec.ofInt 32 (u32.wrap (b:Int))):Nat):Int))=((n*256+b:Nat):Int):=by
 have e:(n:Int)*256=((n*256:Nat):Int):=by omega
 rw[e,w32 (n:=n*256) (by omega),w32 (n:=b) (by omega),Go.Pv.Z4v,Go.Pv.Z4v,BitVec.toNat_or,BitVec.toNat_ofNat,BitVec.toNat_ofNat,Nat.mod_eq_of_lt (by omega),Nat.mod_eq_of_lt (by omega)];have h:=Nat.two_pow_add_eq_or_of_lt (show b<2 ^ 8 by omega) n;rw[show n*256=2 ^ 8*n by omega,← h,w32 (by omega)]
theorem number_eq {a b c d:Nat} (ha:a<256) (hb:b<256) (hc:c<256) (hd:d<256) (r:List Int) (hr:r.length<100000000000):Z1t.f ((a:Int)::(b:Int)::(c:Int)::(d:Int)::r)=some ((a+256*b+65536*c+16777216*d:Nat):Int):=by
 unfold Z1t.f;rw[show i64.wrap ((if(4:Int)<((((a:Int)::(b:Int)::(c:Int)::(d:Int)::r).length:Nat):Int) then(4:Int) else((((a:Int)::(b:Int)::(c:Int)::(d:Int)::r).length:Nat):Int))-1)=3 by
  rw[show(if(4:Int)<((((a:Int)::(b:Int)::(c:Int)::(d:Int)::r).length:Nat):Int) then(4:Int) else((((a:Int)::(b:Int)::(c:Int)::(d:Int)::r).length:Nat):Int))=4 by simp only[List.length_cons];split<;>omega];decide]
 have z:(0:Int)=((0:Nat):Int):=rfl;rw[Z1t.l0,if_pos (by decide),show at? ((a:Int)::(b:Int)::(c:Int)::(d:Int)::r) 3=some (d:Int) from rfl,sb,z,or8 (by omega) hd,show i64.wrap (3-1)=2 by decide];rw[Z1t.l0,if_pos (by decide),show at? ((a:Int)::(b:Int)::(c:Int)::(d:Int)::r) 2=some (c:Int) from rfl,sb,or8 (by omega) hc,show i64.wrap (2-1)=1 by decide];rw[Z1t.l0,if_pos (by decide),show at? ((a:Int)::(b:Int)::(c:Int)::(d:Int)::r) 1=some (b:Int) from rfl,sb,or8 (by omega) hb,show i64.wrap (1-1)=0 by decide];rw[Z1t.l0,if_pos (by decide),show at? ((a:Int)::(b:Int)::(c:Int)::(d:Int)::r) 0=some (a:Int) from rfl,sb,or8 (by omega) ha,show i64.wrap (0-1) = -1 by decide];rw[Z1t.l0,if_neg (by decide),sb];congr 2;omega
theorem Zdp {n:Nat} (h:n<4294967296) (r:List Int) (hr:r.length<100000000000):Z1t.f (four n++r)=some (n:Int):=by
 have:=number_eq (a:=n % 256) (b:=n / 256 % 256) (c:=n / 65536 % 256) (d:=n / 16777216 % 256) (by omega) (by omega) (by omega) (by omega) r hr;rw[show n % 256+256*(n / 256 % 256)+65536*(n / 65536 % 256)+16777216*(n / 16777216 % 256)=n by omega] at this;exact this
theorem four_of {l:List Int} (h:Bys l) (hl:4≤l.length):∃ n r,n<4294967296∧l=four n++r:=by
 match l,hl with
 | a::b::c::d::r,_ =>
  obtain⟨a0,a1⟩:=h a (by simp);obtain⟨b0,b1⟩:=h b (by simp);obtain⟨c0,c1⟩:=h c (by simp);obtain⟨d0,d1⟩:=h d (by simp);refine⟨a.toNat+256*b.toNat+65536*c.toNat+16777216*d.toNat,r,by omega,?_⟩;simp only[four,List.cons_append,List.nil_append];congr 1
  ·omega
  ·congr 1
   ·omega
   ·congr 1
    ·omega
    ·congr 1;omega
theorem open_four {n v:Nat} {x:List Int} (hn:n<4294967296) (hv:v<4294967296) (hx:Bys x) (hl:x.length<1000000000):Z4z.f (four n++(four v++x))=some (if x.length<n then([],[],7) else if crcV (four n++x.take n)=v then(x.take n,x.drop n,0) else([],[],8)):=by
 have hlen:(((four n++(four v++x)).length:Nat):Int)=(x.length:Int)+8:=by simp[Z49];omega
 unfold Z4z.f;rw[hlen,if_neg (by simp;omega),Zdp hn _ (by simp[Z49];omega),sb];rw[Z2l (n:=(n:Int)) (by omega) (by omega),Z8 (by omega) (by omega),Z2l (n:=(x.length:Int)+8-8) (by omega) (by omega)];by_cases hnx:x.length<n
 ·rw[if_pos (by simp;omega),if_pos hnx]
 ·rw[if_neg (by simp;omega),if_neg hnx,Z2l   (n:=8+(n:Int)) (by omega) (by omega),chkB (by omega),chkB (by omega)]
  rw[show Int.toNat (8+(n:Int))=n+8 by omega,show Int.toNat (8:Int)=8 from rfl,show Int.toNat (0:Int)=0 from rfl,show Int.toNat (4:Int)=4 from rfl,List.drop_zero];have d8:(four n++(four v++x)).drop 8=x:=by simp[four]
  have d4:(four n++(four v++x)).drop 4=four v++x:=by simp[four]
  have dn:(four n++(four v++x)).drop (n+8)=x.drop n:=by rw[Nat.add_comm,← List.drop_drop,d8]
  have t4:(four n++(four v++x)).take (4-0)=four n:=by simp[four]
  have ht:(x.take n).length=n:=by rw[List.length_take];omega
  rw[d8,d4,dn,t4,show n+8-8=n by omega,sum_two (four_bys _) (fun z hz=>hx z (List.mem_of_mem_take hz)) (by simp[Z49]) (by omega),sb];rw[chkB (by omega),List.take_of_length_le (l:=four v++x) (by simp[Z49];omega),Zdp hv _ (by omega),sb];by_cases he:crcV (four n++x.take n)=v
  ·rw[if_neg (by simp[he]),if_pos he,chkB (by simp;omega),chkB (by omega),chkB (by simp;omega),List.take_of_length_le (l:=x.drop n) (by simp;omega)]
  ·rw[if_pos (by simp;omega),if_neg he]
theorem open_tot {b:List Int} (h:Bys b) (hl:b.length<1000000000):Z4z.f b=some ([],[],7)∨Z4z.f b=some ([],[],8)∨∃ x rest,Z4z.f b=some (x,rest,0)∧Bys x∧b=sealB x++rest:=by
 by_cases h8:b.length<8
 ·unfold        Z4z.f
  rw[if_pos (by simp;omega)];exact .inl rfl
 ·obtain⟨n,r,hn,rfl⟩:=four_of h (by omega)
  have hr:Bys r:=fun x hx=>h x (List.mem_append_right _ hx);have hrl:4≤r.length:=by simp[Z49] at h8;omega
  obtain⟨v,x,hv,rfl⟩:=four_of hr hrl;have hx:Bys x:=fun y hy=>hr y (List.mem_append_right _ hy);simp only[List.length_append,Z49] at hl;rw[open_four hn hv hx (by omega)];by_cases hnx:x.length<n
  ·rw[if_pos hnx];exact .inl rfl
  ·rw[if_neg hnx]
   by_cases he:crcV (four n++x.take n)=v
   ·rw[if_pos he]
    refine .inr (.inr ⟨_,_,rfl,fun z hz=>hx z (List.mem_of_mem_take hz),?_⟩);have ht:(x.take n).length=n:=by rw[List.length_take];omega
    unfold sealB;rw[ht,he,List.append_assoc,List.append_assoc,List.take_append_drop]
   ·rw[if_neg he];exact .inr (.inl rfl)
theorem rfour_eq {n:Nat} (h:n<4294967296):Z3d.f (n:Int)=some (four n):=by
 have st:∀ (k:Nat) (a:List Int) (i:Int),k<4294967296→a.length<4→i=(a.length:Int)→Z3d.l0 (k:Int) a i=Z3d.l0 ((k / 256:Nat):Int) (a++[((k % 256:Nat):Int)]) (i+1):=by
  intro k a i hk ha hi;have e1:Int.tmod (k:Int) 256=((k % 256:Nat):Int):=by rw[Int.tmod_eq_emod_of_nonneg (by omega)];omega
  have e2:Int.tdiv (k:Int) 256=((k / 256:Nat):Int):=by rw[Int.tdiv_eq_ediv_of_nonneg (by omega)];omega
  rw[Z3d.l0,if_pos (by simp;omega),e1,e2,w8,w32 (by omega),Nat.mod_mod,chkB (by simp;omega),Z8 (by omega) (by omega)]
 unfold Z3d.f;rw[st n [] 0 h (by simp) rfl,st _ _ _ (by omega) (by simp) (by simp),st _ _ _ (by omega) (by simp) (by simp),st _ _ _ (by omega) (by simp) (by simp),Z3d.l0,if_neg (by decide),sb];simp only[List.nil_append,List.cons_append,four,Nat.div_div_eq_div_mul]
theorem rcrc_l1 (a:List Int) (j:Int):∀ (m r x:Nat) (i:Int),i=((8-m:Nat):Int)→m≤8→r<4294967296→x<256→Z2f.l1 a j (r:Int) (x:Int) i=some (rprc m r x:Int):=by
 intro m
 induction m with
 | zero=>intro r x i hi hm hr hx;rw[Z2f.l1,if_neg (by simp;omega)];rfl
 | succ m ih =>
  intro r x i hi hm hr hx;have e1:Int.tdiv (r:Int) 2147483648=((r / 2147483648:Nat):Int):=by rw[Int.tdiv_eq_ediv_of_nonneg (by omega)];omega
  have e2:Int.tmod (x:Int) 2=((x % 2:Nat):Int):=by rw[Int.tmod_eq_emod_of_nonneg (by omega)];omega
  have e3:Int.tdiv (x:Int) 2=((x / 2:Nat):Int):=by rw[Int.tdiv_eq_ediv_of_nonneg (by omega)];omega
  have e4:Int.tmod ((r:Int)*2) 4294967296=((r*2 % 4294967296:Nat):Int):=by rw[Int.tmod_eq_emod_of_nonneg (by omega)];omega
  have hb:(x.testBit 0).toNat=x % 2:=by rw[Nat.testBit_zero];rcases(by omega:x % 2=0∨x % 2=1) with e | e<;>rw[e]<;>rfl
  rw[Z2f.l1,if_pos (by simp;omega),e1,e2,e3,Z2l (n:=(r:Int)*2) (by omega) (by omega),e4,Z2l (n:=((r / 2147483648:Nat):Int)) (by omega) (by omega),Z2l (n:=((x / 2:Nat):Int)) (by omega) (by omega),Z8 (by omega) (by omega)];rw[show(79764919:Int)=((79764919:Nat):Int) from rfl,xorN (k:=64) (by omega) (by decide)];have hx2:(r*2 % 4294967296) ^^^ 79764919<2 ^ 32:=Zeq (by omega) (by decide);rw[Z2l (n:=(((r*2 % 4294967296) ^^^ 79764919:Nat):Int)) (by omega) (by omega)];have hstep:(if(((r / 2147483648:Nat):Int) != ((x % 2:Nat):Int))=true then some ((((r*2 % 4294967296) ^^^ 79764919:Nat):Int)) else some (((r*2 % 4294967296:Nat):Int)))=some ((rB r (x.testBit 0):Nat):Int):=by
   unfold rB;rw[hb];by_cases h:r / 2147483648=x % 2
   ·rw[if_neg (by simp;omega),if_neg (by simpa using h)]
   ·rw[if_pos (by simp;omega),if_pos h]
  rw[hstep,sb,ih _ (x / 2) (i+1) (by omega) (by omega) (rB_lt _ _) (by omega)];rfl
theorem rcrc_l0 (a:List Int) (ha:Bys a) (hl:a.length<100000000000):∀ (suf pre:List Int) (r:Nat) (i:Int),a=pre++suf→i=(pre.length:Int)→r<4294967296→Z2f.l0 a (r:Int) i=some (rF r suf:Int):=by
 intro suf
 induction suf with
 | nil=>intro pre r i h1 hi hr;rw[Z2f.l0,if_neg (by rw[h1];simp[hi])];rfl
 | cons x suf ih =>
  intro pre r i h1 hi hr;obtain⟨x0,x1⟩:=ha x (by rw[h1];simp);have hlen:a.length=pre.length+(suf.length+1):=by rw[h1];simp
  obtain⟨n,rfl⟩:=Int.eq_ofNat_of_zero_le x0;rw[Z2f.l0,if_pos (by simp;omega),Z06 h1 hi,sb,Z2l (by omega) (by omega),rcrc_l1 a i 8 r n 0 rfl (by omega) hr (by omega),sb,Z8 (by omega) (by omega)];rw[ih (pre++[(n:Int)]) _ (i+1) (by simp[h1]) (by simp;omega) (rprc_lt 8 n hr)];rfl
theorem rcrc_l2:∀ (m r o:Nat) (i:Int),i=((32-m:Nat):Int)→m≤32→r<4294967296→o<2 ^ (32-m)→Z2f.l2 (r:Int) (o:Int) i=some (outN m r o:Int):=by
 intro m
 induction m with
 | zero=>intro r o i hi hm hr ho;rw[Z2f.l2,if_neg (by simp;omega)];rfl
 | succ m ih =>
  intro r o i hi hm hr ho;have e2:Int.tmod (r:Int) 2=((r % 2:Nat):Int):=by rw[Int.tmod_eq_emod_of_nonneg (by omega)];omega
  have e3:Int.tdiv (r:Int) 2=((r / 2:Nat):Int):=by rw[Int.tdiv_eq_ediv_of_nonneg (by omega)];omega
  have hp:o<2 ^ 31:=Nat.lt_of_lt_of_le ho (Nat.pow_le_pow_right (by decide) (by omega));have ho2:o*2+1<2 ^ (32-m):=by rw[show 32-m=(32-(m+1))+1 by omega,Nat.pow_succ];omega
  rw[Z2f.l2,if_pos (by simp;omega),e2,e3,show(o:Int)*2=((o*2:Nat):Int) by omega,w32 (by omega),show((o*2:Nat):Int)+1=((o*2+1:Nat):Int) by omega,w32 (by omega),Z2l (by omega) (by omega),Z8 (by omega) (by omega)];rw[outN];by_cases h:r % 2=0
  ·rw[if_pos (by simp;omega),sb,ih _ (o*2+1) (i+1) (by omega) (by omega) (by omega) ho2,if_pos h]
  ·rw[if_neg (by simp;omega),sb,ih _ (o*2) (i+1) (by omega) (by omega) (by omega) (by omega),if_neg h]
theorem rcrc_eq {a:List Int} (ha:Bys a) (hl:a.length<100000000000):Z2f.f a=some (crcV a:Int):=by
 unfold Z2f.f;have h:=rcrc_l0 a ha hl a [] 4294967295 0 rfl rfl (by decide);rw[show((4294967295:Nat):Int)=(4294967295:Int) from rfl] at h;have h2:=rcrc_l2 32 (rF 4294967295 a) 0 0 rfl (by decide) (rF_lt a (by decide)) (by decide);rw[show((0:Nat):Int)=(0:Int) from rfl] at h2;rw[h,sb,h2,sb,crcV_out]
def idx (W:List ByteArray) (w:ByteArray):Nat:=(W.takeWhile (fun x=>bl x w)).length
theorem idx_split {W:List ByteArray} {w:ByteArray} (hs:Z5g W) (hw:w∈W):∃ A B,W=A++w::B∧idx W w=A.length∧(∀ a∈A,bl a w=true)∧∀ b∈B,bl w b=true:=by
 have hW:=List.takeWhile_append_dropWhile (p:=fun x=>bl x w) (l:=W);have hA:∀ a∈W.takeWhile (fun x=>bl x w),bl a w=true:=fun a ha=>List.all_eq_true.1 (List.all_takeWhile (p:=fun x=>bl x w) (l:=W)) a ha
 cases hd:W.dropWhile (fun x=>bl x w) with
 | nil =>
  rw[hd,List.append_nil] at hW;rw[← hW] at hw;have:=hA w hw;rw[Z60] at this;simp at this
 | cons y r =>
  have hy:bl y w=false:=by
   have:=List.head?_dropWhile_not (fun x=>bl x w) W;rw[hd] at this;simpa using this
  rw[hd] at hW;have hs2:=hs;rw[← hW] at hs2 hw;obtain⟨_,p2,p3⟩:=List.pairwise_append.1 hs2;obtain⟨q1,_⟩:=List.pairwise_cons.1 p2;have hyw:y=w:=by
   rcases List.mem_append.1 hw with h | h
   ·have:=hA w h;rw[Z60] at this;simp at this
   ·rcases List.mem_cons.1 h with h | h
    ·exact h.symm
    ·have:=q1 w h;rw[hy] at this;simp at this
  subst hyw;exact⟨_,r,hW.symm,rfl,hA,q1⟩
theorem Z6c {W:List ByteArray} {w:ByteArray} (hs:Z5g W) (hw:w∈W):idx W w<W.length∧W[idx W w]? = some w:=by
 obtain⟨A,B,h1,h2,_⟩:=idx_split hs hw;rw[h2,h1];simp
theorem idx_lo {W:List ByteArray} {w x:ByteArray} {k:Nat} (hs:Z5g W) (hw:w∈W) (hx:W[k]? = some x):(k<idx W w↔bl x w=true):=by
 obtain⟨A,B,h1,h2,h3,h4⟩:=idx_split hs hw;rw[h2];rw[h1] at hx;constructor
 ·intro h
  rw[List.getElem?_append_left h] at hx;exact h3 x (List.mem_of_getElem? hx)
 ·intro h
  rcases Nat.lt_or_ge k A.length with c | c
  ·exact c
  ·rw[List.getElem?_append_right c] at hx
   have hm:=List.mem_of_getElem? hx;rcases List.mem_cons.1 hm with e | e
   ·subst e;rw[Z60] at h;simp at h
   ·have h5:=h4 x e
    have h6:bl x w=false:=Zd4 h5;rw[h6] at h;simp at h
theorem less_str (a b:ByteArray):Z3z.f a b=some (bl a b):=by
 unfold Z3z.f Z1y.f;simp[sb]
theorem binS_l0 {W:List ByteArray} {w:ByteArray} (hs:Z5g W) (hw:w∈W) (hl:W.length≤100000):∀ (n i j:Nat),j-i≤n→i≤idx W w→idx W w≤j→j≤W.length→Z01.l0 W w (i:Int) (j:Int)=some ((idx W w:Nat):Int):=by
 intro n
 induction n with
 | zero =>
  intro i j h1 h2 h3 h4;rw[Z01.l0,if_neg (by simp;omega)];congr 2;omega
 | succ n ih =>
  intro i j h1 h2 h3 h4;by_cases hij:i<j
  case neg=>rw[Z01.l0,if_neg (by simp;omega)];congr 2;omega
  obtain⟨x,hx⟩:∃ x,W[(i+j) / 2]? = some x:=⟨_,List.getElem?_eq_getElem (by omega)⟩
  have hlo:=idx_lo hs hw hx;rw[Z01.l0,if_pos (by simp;omega),half_eq (by omega),Z4j rfl hx,sb,less_str,sb];cases hlt:bl x w with
  | true =>
   rw[if_pos rfl,sb,Z8 (by omega) (by omega)];exact ih ((i+j) / 2+1) j (by omega) (hlo.2 hlt) h3 h4
  | false =>
   rw[if_neg (by simp),sb];refine ih i ((i+j) / 2) (by omega) h2 ?_ (by omega);rcases Nat.lt_or_ge ((i+j) / 2) (idx W w) with h | h
   ·rw[hlo.1 h] at hlt;simp at hlt
   ·exact h
theorem binS {W:List ByteArray} {w:ByteArray} (hs:Z5g W) (hw:w∈W) (hl:W.length≤100000):∃ b,Z01.f W w=some (((idx W w:Nat):Int),b):=by
 obtain⟨h1,h2⟩:=Z6c hs hw;unfold Z01.f;have e:=binS_l0 hs hw hl W.length 0 W.length (by omega) (by omega) (by omega) (Nat.le_refl _);rw[show(0:Int)=((0:Nat):Int) from rfl,e,sb,if_pos (by simp;omega),Z4j rfl h2,sb,eqB,if_pos (by simp),sb];exact⟨_,rfl⟩
def Zco (W ws:List ByteArray):List Bool:=ws.flatMap fun w=>cnt2 (idx W w)
def rowB (W:List ByteArray) (r:Zp):List Bool:=cnt2 (lab r.f0).length++(Zco W (kw r.f0)++smpsB r.f1)
def blkB (b:Z2) (W:List ByteArray):List Bool:=cnt2 b.f0.f2.toNat++(cnt2 b.f0.f0.toNat++(cnt2 W.length++(W.flatMap Z78++(cnt2 b.f1.length++b.f1.flatMap (rowB W)))))
structure RowG (W:List ByteArray) (r:Zp):Prop where
 k:Z7y r.f0
 w:∀ x∈kw r.f0,x∈W
 s:∀ s∈r.f1,SOk s
 n:r.f1.length≤50000
theorem Zdh (W ws:List ByteArray):(Zco W ws).length≤71*ws.length:=Zdy _ 71 ws (fun w _=>Z0t _)
theorem RowG.len {W:List ByteArray} {r:Zp} (h:RowG W r):(rowB W r).length≤5000+3300000*r.f1.length:=by
 obtain⟨C,hC⟩:=cutX_ok r.f1 (by have:=h.n;omega) h.s;have h1:=smpsB_len hC;have h2:=Zdh W (kw r.f0);have h3:=Zds h.k;have h4:=Z0t (lab r.f0).length;rw[rowB,List.length_append,List.length_append];omega
theorem we_l3 (a0:Z2) (r:Zp) (x:Z0f) {W:List ByteArray} (hs:Z5g W) (hl:W.length≤100000) (t:(List Z0f)×Int) (j k:Int) (h0:x.f0∈W) (h1:x.f1∈W) {b:List Int} {f:Nat} {s:List Bool} (hL:Laid b f s) (hsl:s.length<600000000000) :
  ∃ (b':List Int) (f':Nat),Zl.l3 a0 r x W t j k b (f:Int) 0=some (b',(f':Int))∧Laid b' f' (s++(cnt2 (idx W x.f0)++cnt2 (idx W x.f1))):=by
 have i0:=Z6c hs h0;have i1:=Z6c hs h1;obtain⟨c0,e0⟩:=binS hs h0 hl;obtain⟨c1,e1⟩:=binS hs h1 hl;have l0:=Z0t (idx W x.f0);rw[Zl.l3,if_pos (by decide),chkB (by decide),if_pos (by decide),sb,e0,sb];dsimp only;rw[Z2l (by omega) (by omega)];obtain⟨b1,f1,g1,g2⟩:=Z6a hL (by omega) (n:=((idx W x.f0:Nat):Int)) (by omega) (by omega);rw[g1,sb];dsimp only;rw[Int.toNat_natCast] at g2;rw[show i64.wrap (0+1)=1 by decide,Zl.l3,if_pos (by decide),chkB (by decide),if_neg (by decide),sb,e1,sb];dsimp only;rw[Z2l (by omega) (by omega)];obtain⟨b2,f2,g3,g4⟩:=Z6a g2 (by rw[List.length_append];omega) (n:=((idx W x.f1:Nat):Int)) (by omega) (by omega);rw[g3,sb];dsimp only;rw[Int.toNat_natCast] at g4;rw[show i64.wrap (1+1)=2 by decide,Zl.l3,if_neg (by decide)];exact⟨b2,f2,rfl,by rw[← List.append_assoc];exact g4⟩
theorem we_l2 (a0:Z2) (r:Zp) {W:List ByteArray} (hs:Z5g W) (hl:W.length≤100000) (t:(List Z0f)×Int) (j:Int) (ht:t.1.length≤16) (hW:∀ w∈Z4m t.1,w∈W):∀ (suf pre:List Z0f) (b:List Int) (f:Nat) (s:List Bool) (i:Int),t.1=pre++suf→i=(pre.length:Int)→Laid b f s→s.length+142*suf.length<600000000000 →
  ∃ (b':List Int) (f':Nat),Zl.l2 a0 r W t j b (f:Int) i=some (b',(f':Int))∧Laid b' f' (s++Zco W (Z4m suf)):=by
 intro suf
 induction suf with
 | nil=>intro pre b f s i h1 hi hL _;rw[Zl.l2,if_neg (by rw[h1];simp[hi])];exact⟨b,f,rfl,by simpa[Zco,Z4m] using hL⟩
 | cons x suf ih =>
  intro pre b f s i h1 hi hL hsl;have hlen:t.1.length=pre.length+(suf.length+1):=by rw[h1];simp
  simp only[List.length_cons] at hsl;have h0:x.f0∈W:=hW _ (by rw[h1];simp[Z4m]);have h01:x.f1∈W:=hW _ (by rw[h1];simp[Z4m]);obtain⟨b1,f1,g1,g2⟩:=we_l3 a0 r x hs hl t j i h0 h01 hL (by omega);have l0:=Z0t (idx W x.f0);have l1:=Z0t (idx W x.f1);rw[Zl.l2,if_pos (by simp;omega),Z06 h1 hi,sb,g1,sb];dsimp only;rw[Z8 (by omega) (by omega)];obtain⟨b2,f2,g3,g4⟩:=ih (pre++[x]) b1 f1 _ (i+1) (by simp[h1]) (by simp;omega) g2 (by simp only[List.length_append];omega);exact⟨b2,f2,g3,by simpa[Zco,Z4m] using g4⟩
theorem we_l4 (a0:Z2) (W:List ByteArray) (j:Int) (C:List (List Z6)) (hC:∀ c∈C,Chu c) (hl:C.length≤1000000):∀ (suf pre:List (List Z6)) (b:List Int) (f:Nat) (s:List Bool) (i:Int),C=pre++suf→i=(pre.length:Int)→s.length+3300000*suf.length<600000000000→Laid b f s →
  ∃ (b':List Int) (f':Nat),Zl.l4 a0 W C j b (f:Int) i=some (b',(f':Int))∧Laid b' f' (s++Zep suf):=by
 intro suf
 induction suf with
 | nil =>
  intro pre b f s i h1 hi _ hL;rw[Zl.l4,if_neg (by rw[h1];simp[hi])];exact⟨b,f,rfl,by simpa[Zep] using hL⟩
 | cons c suf ih =>
  intro pre b f s i h1 hi hs hL;have hlen:C.length=pre.length+(suf.length+1):=by rw[h1];simp
  have hc:=hC c (by rw[h1];simp);obtain⟨e1,_,e3,e4⟩:=hc.enc;have ht:=hc.txt;simp only[List.length_cons] at hs;rw[Zl.l4,if_pos (by simp;omega),Z06 h1 hi,sb,e1,sb];dsimp only;obtain⟨b1,f1,g1,g2⟩:=text_eq hL (Z6d (encX c)) (by omega) (by omega);rw[g1,sb,Z8 (n:=i+1) (by omega) (by omega)];dsimp only;obtain⟨b2,f2,g3,g4⟩:=ih (pre++[c]) b1 f1 _ (i+1) (by simp[h1]) (by simp;omega) (by rw[List.length_append];omega) g2;exact⟨b2,f2,g3,by simpa[Zep] using g4⟩
theorem we_l1 (a0:Z2) {W:List ByteArray} (hs:Z5g W) (hl:W.length≤100000) (hn:a0.f1.length≤64) (hG:∀ r∈a0.f1,RowG W r):∀ (suf pre:List Zp) (b:List Int) (f:Nat) (s:List Bool) (i:Int),a0.f1=pre++suf→i=(pre.length:Int)→Laid b f s →
  s.length+((suf.map (fun r=>r.f1.length)).sum*3300000+5000*suf.length)<300000000000→∃ (b':List Int) (f':Nat),Zl.l1 a0 W b (f:Int) i=some (b',(f':Int))∧Laid b' f' (s++suf.flatMap (rowB W)):=by
 intro suf
 induction suf with
 | nil=>intro pre b f s i h1 hi hL _;rw[Zl.l1,if_neg (by rw[h1];simp[hi])];exact⟨b,f,rfl,by simpa using hL⟩
 | cons r suf ih =>
  intro pre b f s i h1 hi hL hsl;have hlen:a0.f1.length=pre.length+(suf.length+1):=by rw[h1];simp
  simp only[List.length_cons,List.map_cons,List.sum_cons] at hsl;have hr:=hG r (by rw[h1];simp);have hln:=hr.k.n;have hrb:=hr.len;obtain⟨C,hC⟩:=cutX_ok r.f1 (by have:=hr.n;omega) hr.s;have hCl:=hC.len;have hrn:=hr.n;rw[Zl.l1,if_pos (by simp;omega),Z06 h1 hi,sb,hr.k.f,sb];dsimp only;rw[Z2l (by omega) (by omega)];obtain⟨b1,f1,g1,g2⟩:=Z6a hL (by omega) (n:=(((lab r.f0).length:Nat):Int)) (by omega) (by omega);rw[g1,sb];dsimp only;rw[Int.toNat_natCast] at g2;have c1:=Z0t (lab r.f0).length;obtain⟨b2,f2,g3,g4⟩:=we_l2 a0 r hs hl (lab r.f0,0) i hln hr.w (lab r.f0) [] b1 f1 _ 0 rfl rfl g2 (by rw[List.length_append];omega);have c2:=Zdh W (kw r.f0);have c3:=Zds hr.k;rw[show Zco W (Z4m (lab r.f0))=Zco W (kw r.f0) from rfl] at g4;rw[g3,sb];dsimp only;rw[hC.p,sb,Z2l (by omega) (by omega)];obtain⟨b3,f3,g5,g6⟩:=Z6a g4 (by simp only[List.length_append];omega) (n:=(C.length:Int)) (by omega) (by omega);rw[g5,sb];dsimp only;rw[Int.toNat_natCast] at g6;have c4:=Z0t C.length;obtain⟨b4,f4,g7,g8⟩:=we_l4 a0 W i C hC.ok (by omega) C [] b3 f3 _ 0 rfl rfl (by simp only[List.length_append];omega) g6;have hbits:s++cnt2 (lab r.f0).length++Zco W (kw r.f0)++cnt2 C.length++Zep C=s++rowB W r:=by
   rw[rowB,smpsB,hC.x];simp only[List.append_assoc]
  rw[hbits] at g8;rw[g7,sb];dsimp only;rw[Z8 (by omega) (by omega)];obtain⟨b5,f5,g9,g10⟩:=ih (pre++[r]) b4 f4 _ (i+1) (by simp[h1]) (by simp;omega) g8 (by rw[List.length_append];omega);exact⟨b5,f5,g9,by simpa using g10⟩
theorem we_l0 (a0:Z2) (W:List ByteArray) (hl:W.length≤2048) (hw:∀ w∈W,w.size≤64):∀ (suf pre:List ByteArray) (b:List Int) (f:Nat) (s:List Bool) (i:Int),W=pre++suf→i=(pre.length:Int)→Laid b f s→s.length+600*suf.length<300000000000 →
  ∃ (b':List Int) (f':Nat),Zl.l0 a0 W b (f:Int) i=some (b',(f':Int))∧Laid b' f' (s++suf.flatMap Z78):=by
 intro suf
 induction suf with
 | nil=>intro pre b f s i h1 hi hL _;rw[Zl.l0,if_neg (by rw[h1];simp[hi])];exact⟨b,f,rfl,by simpa using hL⟩
 | cons w suf ih =>
  intro pre b f s i h1 hi hL hsl;have hlen:W.length=pre.length+(suf.length+1):=by rw[h1];simp
  simp only[List.length_cons] at hsl;have hw0:=hw w (by rw[h1];simp);have ht:=Z77 w;rw[Zl.l0,if_pos (by simp;omega),Z06 h1 hi,sb];obtain⟨b1,f1,g1,g2⟩:=text_eq hL w (by omega) (by omega);rw[g1,sb,Z8 (by omega) (by omega)];dsimp only;obtain⟨b2,f2,g3,g4⟩:=ih (pre++[w]) b1 f1 _ (i+1) (by simp[h1]) (by simp;omega) g2 (by rw[List.length_append];omega);exact⟨b2,f2,g3,by simpa using g4⟩
structure BSz (b:Z2):Prop where
 rows:∀ r∈b.f1,RowB r
 len:b.f1.length<1000000000
 sum:(b.f1.map fun r=>r.f1.length).sum≤50000
theorem Zes {α:Type} (f:α→Nat):∀ {l:List α} {x:α},x∈l→f x≤(l.map f).sum
 | y::l,x,h=>by
  rw[List.map_cons,List.sum_cons];rcases List.mem_cons.1 h with rfl | h
  ·omega
  ·have:=Zes f h;omega
theorem rowG {b:Z2} (hz:BSz b) (hb:BlkOK b) {W:List ByteArray} (hT:Table b W):∀ r∈b.f1,RowG W r:=fun r hr=>by
 have h1:=hz.rows r hr;have h2:=hb.rows r hr;refine⟨keyOK16 h1.k h2.k,fun x hx=>(hT.mem x).2 (List.mem_flatMap.2 ⟨r,hr,hx⟩),fun s hs=>sok_inv (h1.f s hs).1 (rise_ok _ _ h2.up s hs),?_⟩;have:=Zes (fun r:Zp=>r.f1.length) hr;have:=hz.sum;omega
theorem keys16 {b:Z2} (hz:BSz b) (hb:BlkOK b):∀ r∈b.f1,Z7y r.f0:=fun r hr=>keyOK16 (hz.rows r hr).k (hb.rows r hr).k
theorem Z91 {b:Z2} (hz:BSz b) (hb:BlkOK b) {W:List ByteArray} (hT:Table b W):∀ w∈W,w.size≤64:=fun w hw=>by
 obtain⟨r,hr,hw⟩:=List.mem_flatMap.1 ((hT.mem w).1 hw);exact(keys16 hz hb r hr).s w hw
theorem Zdz (W:List ByteArray):∀ (l:List Zp),(∀ r∈l,RowG W r)→(l.flatMap (rowB W)).length≤(l.map fun r=>r.f1.length).sum*3300000+5000*l.length
 | [],_=>by simp
 | r::l,h=>by
  have h1:=(h r (by simp)).len;have h2:=Zdz W l (fun x hx=>h x (by simp[hx]));simp only[List.flatMap_cons,List.length_append,List.map_cons,List.sum_cons,List.length_cons];omega
theorem blkB_len {b:Z2} (hz:BSz b) (hb:BlkOK b) {W:List ByteArray} (hT:Table b W):(blkB b W).length≤165002000000:=by
 have h1:=Zdz W b.f1 (rowG hz hb hT);have h2:=Zdy Z78 600 W (fun w hw=>by have:=Z77 w;have:=Z91 hz hb hT w hw;omega);have h3:=hT.len;have h4:=hz.sum;have h5:=hb.len;have:=Z0t b.f0.f2.toNat;have:=Z0t b.f0.f0.toNat;have:=Z0t W.length;have:=Z0t b.f1.length;simp only[blkB,List.length_append];omega
theorem wcount00 (f n:Int):Z1e.f f n=Z9.f [] f n:=by kernel_rfl
theorem bytes_ok16 {b:List Int} {f:Int} (h:b.length<100000000000):Z1f.f b f=some b:=by
 unfold Z1f.f Z2z.f;rw[chkB (by simp;omega),sb]
theorem enc16 {b:Z2} (hz:BSz b) (hb:BlkOK b):∃ (W:List ByteArray) (x:List Int) (f:Nat),Table b W∧Laid x f (blkB b W)∧Zl.f b=some (sealB x,0):=by
 obtain⟨W,hW,hT⟩:=words16 b hb.len (keys16 hz hb);have hm:=hb.m;have hmem:=rowG hz hb hT;have h4:=hz.sum;have h5:=hb.len;have h6:=hT.len;unfold Zl.f;rw[check16 b hz.len hz.rows,(blkC_ok b).2 hb,sb,if_neg (by simp),wcount00,Z2l hm.1 (by have:=hm.2.1;omega)];obtain⟨b1,f1,e1,g1⟩:=Z6a Laid.nil (by simp) (n:=b.f0.f2) hm.1 (by have:=hm.2.1;omega);rw[show((0:Nat):Int)=(0:Int) from rfl] at e1;rw[e1,sb];dsimp only;rw[Z2l hm.2.2.1 (by have:=hm.2.2.2.1;omega)];have c1:=Z0t b.f0.f2.toNat;obtain⟨b2,f2,e2,g2⟩:=Z6a g1 (by simp;omega) (n:=b.f0.f0) hm.2.2.1 (by have:=hm.2.2.2.1;omega);have c2:=Z0t b.f0.f0.toNat;rw[e2,sb];dsimp only;rw[hW,sb,Z2l (n:=(W.length:Int)) (by omega) (by omega)];obtain⟨b3,f3,e3,g3⟩:=Z6a g2 (by simp;omega) (n:=(W.length:Int)) (by omega) (by omega);rw[Int.toNat_natCast] at g3;have c3:=Z0t W.length;rw[e3,sb];dsimp only;obtain⟨b4,f4,e4,g4⟩:=we_l0 b W hT.len (Z91 hz hb hT) W [] b3 f3 _ 0 rfl rfl g3 (by simp;omega);have c4:=Zdy Z78 600 W (fun w hw=>by have:=Z77 w;have:=Z91 hz hb hT w hw;omega);rw[e4,sb];dsimp only;rw[Z2l (n:=(b.f1.length:Int)) (by omega) (by omega)];obtain⟨b5,f5,e5,g5⟩:=Z6a g4 (by simp only[List.length_append,List.length_nil];omega) (n:=(b.f1.length:Int)) (by omega) (by omega);rw[Int.toNat_natCast] at g5;have c5:=Z0t b.f1.length;rw[e5,sb];dsimp only;obtain⟨b6,f6,e6,g6⟩:=we_l1 b hT.up (by omega) hb.len hmem b.f1 [] b5 f5 _ 0 rfl rfl g5 (by simp only[List.length_append,List.length_nil];omega);rw[e6,sb];dsimp only;have hL:Laid b6 f6 (blkB b W):=by
  have:blkB b W=[]++cnt2 b.f0.f2.toNat++cnt2 b.f0.f0.toNat++cnt2 W.length++W.flatMap Z78++cnt2 b.f1.length++b.f1.flatMap (rowB W):=by rw[blkB];simp only[List.append_assoc,List.nil_append]
  rw[this];exact g6
 have hll:=hL.len;have hlt:=hL.lt;have hbl:=blkB_len hz hb hT;refine⟨W,b6,f6,hT,hL,?_⟩;rw[bytes_ok16 (by omega),sb,seal_eq (Zbv hL) (by omega),sb]
theorem rtext16 (t:ByteArray) (ht:t.size≤2000000):Z5u.f t=some (strB (Z78 t)):=by
 unfold Z5u.f;have hb:=Z77 t;rw[Z2l (by omega) (by omega),Z7p (by omega),sb,rtext (Z3b t) (by rw[Z4i];omega) (fun x hx=>Zag t x hx),sb,← by8_bits,chkB (by rw[Zv,Zv,by8_len,Z4i];have:=Z0t t.size;omega),← Z0q,Z78]
theorem re_l3 (b:Z0g) (W:List ByteArray) (hl:W.length≤2048) (hw:∀ w∈W,w.size≤64):∀ (suf pre:List ByteArray) (s:List Bool) (i:Int),W=pre++suf→i=(pre.length:Int)→s.length+600*suf.length<300000000000 →
  Zc.l3 b W (strB s) i=some (strB (s++suf.flatMap Z78)):=by
 intro suf
 induction suf with
 | nil=>intro pre s i h1 hi _;rw[Zc.l3,if_neg (by rw[h1];simp[hi])];simp
 | cons w suf ih =>
  intro pre s i h1 hi hsl;have hlen:W.length=pre.length+(suf.length+1):=by rw[h1];simp
  simp only[List.length_cons] at hsl;have hw0:=hw w (by rw[h1];simp);have ht:=Z77 w;rw[Zc.l3,if_pos (by simp;omega),Z06 h1 hi,sb,rtext16 w (by omega),sb,chkB (by rw[Zv,Zv];omega),← Z0q,Z8 (by omega) (by omega),ih (pre++[w]) _ (i+1) (by simp[h1]) (by simp;omega) (by rw[List.length_append];omega)];simp
theorem re_l6 (b:Z0g) (p:List ByteArray) {W:List ByteArray} (hs:Z5g W) (hl:W.length≤2048) (j k:Int) (w:ByteArray) (hk:at? p k=some w) (hw:w∈W):∀ (suf pre:List ByteArray) (s:List Bool) (i:Int),W=pre++suf→i=(pre.length:Int)→s.length+71*suf.length<600000000000 →
  Zc.l6 b p W j k (strB s) i=some (strB (s++if pre.length≤idx W w then cnt2 (idx W w) else [])):=by
 obtain⟨hi1,hi2⟩:=Z6c hs hw;intro suf
 induction suf with
 | nil =>
  intro pre s i h1 hi _;rw[Zc.l6,if_neg (by rw[h1];simp[hi])];rw[h1,List.append_nil] at hi1;rw[if_neg (by rw[h1,List.append_nil];omega)];simp
 | cons x suf ih =>
  intro pre s i h1 hi hsl;have hlen:W.length=pre.length+(suf.length+1):=by rw[h1];simp
  have hx:W[pre.length]? = some x:=by rw[h1];simp
  simp only[List.length_cons] at hsl;rw[Zc.l6,if_pos (by simp;omega),Z06 h1 hi,sb,hk,sb,eqB];by_cases e:x=w
  ·subst e
   have hpi:pre.length=idx W x:=by
    have h3:=idx_lo hs hw hx;have h4:¬ pre.length<idx W x:=fun h=>by have:=h3.1 h;rw[Z60] at this;simp at this
    rcases Nat.lt_or_ge (idx W x) pre.length with h5 | h5
    ·have:=List.pairwise_iff_getElem.1 hs (idx W x) pre.length hi1 (by omega) h5
     obtain⟨q1,q2⟩:=List.getElem?_eq_some_iff.1 hi2;obtain⟨q3,q4⟩:=List.getElem?_eq_some_iff.1 hx;rw[q2,q4,Z60] at this;simp at this
    ·omega
   have hc:=Z0t (idx W x);rw[if_pos (by simp),hi,Z2l (by omega) (by omega),Z7p (by omega),sb,chkB (by rw[Zv,Zv,← hpi] at *;omega),← Z0q,sb,Z8 (by omega) (by omega),ih (pre++[x]) _ ((pre.length:Int)+1) (by simp[h1]) (by simp) (by rw[List.length_append,hpi];omega)];rw[if_neg (by simp;omega),if_pos (by omega),hpi,List.append_nil]
  ·have hne:pre.length≠idx W w:=fun h=>by rw[h,hi2] at hx;exact e (Option.some.inj hx).symm
   rw[if_neg (by simpa using e),sb,Z8 (by omega) (by omega),ih (pre++[x]) s (i+1) (by simp[h1]) (by simp;omega) (by omega)];congr 3;simp only[List.length_append,List.length_singleton];by_cases c:pre.length≤idx W w
   ·rw[if_pos (by omega),if_pos c]
   ·rw[if_neg (by omega),if_neg c]
theorem re_l5 (b:Z0g) (p:List ByteArray) {W:List ByteArray} (hs:Z5g W) (hl:W.length≤2048) (j:Int) (hp:p.length≤32) (hw:∀ w∈p,w∈W):∀ (suf pre:List ByteArray) (s:List Bool) (i:Int),p=pre++suf→i=(pre.length:Int)→s.length+71*suf.length<500000000000 →
  Zc.l5 b p W j (strB s) i=some (strB (s++Zco W suf)):=by
 intro suf
 induction suf with
 | nil=>intro pre s i h1 hi _;rw[Zc.l5,if_neg (by rw[h1];simp[hi])];simp[Zco]
 | cons w suf ih =>
  intro pre s i h1 hi hsl;have hlen:p.length=pre.length+(suf.length+1):=by rw[h1];simp
  simp only[List.length_cons] at hsl;have hc:=Z0t (idx W w);rw[Zc.l5,if_pos (by simp;omega),re_l6 b p hs hl j i w (Z06 h1 hi) (hw w (by rw[h1];simp)) W [] s 0 rfl rfl (by omega),sb,if_pos (by simp),Z8 (by omega) (by omega),ih (pre++[w]) _ (i+1) (by simp[h1]) (by simp;omega) (by rw[List.length_append];omega)];simp[Zco]
theorem re_l7 (b:Z0g) (W:List ByteArray) (j:Int) (C:List (List Z6)) (hC:∀ c∈C,Chu c) (hl:C.length≤1000000):∀ (suf pre:List (List Z6)) (s:List Bool) (i:Int),C=pre++suf→i=(pre.length:Int)→s.length+3300000*suf.length<600000000000 →
  Zc.l7 b C W j (strB s) i=some (strB (s++Zep suf)):=by
 intro suf
 induction suf with
 | nil=>intro pre s i h1 hi _;rw[Zc.l7,if_neg (by rw[h1];simp[hi])];simp[Zep]
 | cons c suf ih =>
  intro pre s i h1 hi hs;have hlen:C.length=pre.length+(suf.length+1):=by rw[h1];simp
  have hc:=hC c (by rw[h1];simp);obtain⟨e1,⟨g,hX⟩,e3,e4⟩:=hc.enc;have ht:=hc.txt;obtain⟨x,f,e,hX2⟩:=renc_eq hc.cok hc.ne (fun s hs=>(hc.k s hs).fits);have:=hX.unique hX2;subst this;simp only[List.length_cons] at hs;rw[Zc.l7,if_pos (by simp;omega),Z06 h1 hi,sb,e,sb,rtext16 _ (by omega),sb,chkB (by rw[Zv,Zv];omega),← Z0q,Z8 (n:=i+1) (by omega) (by omega),ih (pre++[c]) _ (i+1) (by simp[h1]) (by simp;omega) (by rw[List.length_append];omega)];simp[Zep]
theorem re_l4 (b:Z0g) {W:List ByteArray} (hs:Z5g W) (hl:W.length≤2048) (hn:b.f3.length≤64) (hG:∀ r∈b.f3,RowG W r):∀ (suf pre:List Zp) (s:List Bool) (i:Int),b.f3=pre++suf→i=(pre.length:Int) →
  s.length+((suf.map (fun r=>r.f1.length)).sum*3300000+5000*suf.length)<300000000000→Zc.l4 b W (strB s) i=some (strB (s++suf.flatMap (rowB W))):=by
 intro suf
 induction suf with
 | nil=>intro pre s i h1 hi _;rw[Zc.l4,if_neg (by rw[h1];simp[hi])];simp
 | cons r suf ih =>
  intro pre s i h1 hi hsl;have hlen:b.f3.length=pre.length+(suf.length+1):=by rw[h1];simp
  simp only[List.length_cons,List.map_cons,List.sum_cons] at hsl;have hr:=hG r (by rw[h1];simp);have hln:=hr.k.n;have hrb:=hr.len;obtain⟨C,hC⟩:=cutX_ok r.f1 (by have:=hr.n;omega) hr.s;have hCl:=hC.len;have hrn:=hr.n;have c1:=Z0t (lab r.f0).length;have c2:=Zdh W (kw r.f0);have c3:=Zds hr.k;have c4:=Z0t C.length;have hfl:(kw r.f0).length=2*(lab r.f0).length:=flatP_len _;have hd:Int.tdiv ((kw r.f0).length:Int) 2=(((lab r.f0).length:Nat):Int):=by rw[Int.tdiv_eq_ediv_of_nonneg (by omega)];omega
  rw[Zc.l4,if_pos (by simp;omega),Z06 h1 hi,sb,parts16 hr.k,sb,hd,Z8 (n:=(((lab r.f0).length:Nat):Int)) (by omega) (by omega),Z2l (by omega) (by omega),Z7p (by omega),sb,chkB (by rw[Zv,Zv];omega),← Z0q];rw[re_l5 b (kw r.f0) hs hl i (by omega) hr.w (kw r.f0) [] _ 0 rfl rfl (by rw[List.length_append];omega),sb,sb,hC.d,sb,Z2l (by omega) (by omega),Z7p (by omega),sb,chkB (by rw[Zv,Zv];simp only[List.length_append];omega),← Z0q];rw[re_l7 b W i C hC.ok (by omega) C [] _ 0 rfl rfl (by simp only[List.length_append];omega),sb,Z8 (by omega) (by omega)];have hbits:s++cnt2 (lab r.f0).length++Zco W (kw r.f0)++cnt2 C.length++Zep C=s++rowB W r:=by
   rw[rowB,smpsB,hC.x];simp only[List.append_assoc]
  rw[hbits,ih (pre++[r]) _ (i+1) (by simp[h1]) (by simp;omega) (by rw[List.length_append];omega)];simp
theorem renc16 {b:Z0g} (hz:BSz (Zek b)) (hb:BlkOK (Zek b)) {W:List ByteArray} (hT:Table (Zek b) W) {x:List Int} {f:Nat} (hL:Laid x f (blkB (Zek b) W)):Zc.f b=some (sealB x):=by
 have hm:=hb.m;have hmem:∀ r∈b.f3,RowG W r:=rowG hz hb hT
 have h4:(b.f3.map fun r=>r.f1.length).sum≤50000:=hz.sum;have h5:b.f3.length≤64:=hb.len;have h6:=hT.len;have m1:0≤b.f2:=hm.1;have m2:b.f2≤4:=hm.2.1;have m3:0≤b.f0:=hm.2.2.1;have m4:b.f0≤1099511627776:=hm.2.2.2.1;obtain⟨n2,e2⟩:=Int.eq_ofNat_of_zero_le m1;obtain⟨n0,e0⟩:=Int.eq_ofNat_of_zero_le m3;have c1:=Z0t n2;have c2:=Z0t n0;have c3:=Z0t W.length;have c4:=Zdy Z78 600 W (fun w hw=>by have:=Z77 w;have:=Z91 hz hb hT w hw;omega);have c5:=Z0t b.f3.length;have hbl:=blkB_len hz hb hT;unfold Zc.f;rw[rwords16 b h5 (keys16 hz hb) hT,sb,e2,e0,Z2l (n:=(n2:Int)) (by omega) (by omega),Z2l (n:=(n0:Int)) (by omega) (by omega),Z7p (by omega),sb,Z7p (by omega),sb,chkB (by rw[Zv,Zv];omega),Z2l (n:=(W.length:Int)) (by omega) (by omega),Z7p (by omega),sb,← Z0q,chkB (by rw[Zv,Zv,List.length_append];omega),← Z0q];rw[re_l3 b W h6 (Z91 hz hb hT) W [] _ 0 rfl rfl (by simp only[List.length_append];omega),sb,Z2l (n:=(b.f3.length:Int)) (by omega) (by omega),Z7p (by omega),sb,chkB (by rw[Zv,Zv];simp only[List.length_append];omega),← Z0q];rw[re_l4 b hT.up h6 h5 hmem b.f3 [] _ 0 rfl rfl (by simp only[List.length_append];omega),sb];have hbits:cnt2 n2++cnt2 n0++cnt2 W.length++W.flatMap Z78++cnt2 b.f3.length++b.f3.flatMap (rowB W)=blkB (Zek b) W:=by
  show _=cnt2 b.f2.toNat++(cnt2 b.f0.toNat++(cnt2 W.length++(W.flatMap Z78++(cnt2 b.f3.length++b.f3.flatMap (rowB W)))));rw[e2,e0];simp only[List.append_assoc,Int.toNat_natCast]
 obtain⟨y,g,r1,r2⟩:=rbytes (blkB (Zek b) W) (by omega);have:=hL.unique r2;subst this;have hll:=hL.len;have hlt:=hL.lt;have hby:Bys x:=Zbv hL;rw[hbits,r1,sb,w32m,rfour_eq (Nat.mod_lt _ (by decide)),four_mod,sb,chkB (by simp[Z49]),chkB (by rw[Z49];omega),rcrc_eq (bys_app (four_bys _) hby) (by rw[List.length_append,Z49];omega),sb,rfour_eq (crcV_lt _),sb,chkB (by simp[Z49]),chkB (by rw[List.length_append,Z49,Z49];omega)];rfl
def ofBlk (b:Z2):Z0g:=⟨b.f0.f0,b.f0.f1,b.f0.f2,b.f1⟩
theorem fr_l0_16 (b:Z2) (hl:b.f1.length≤100000000):∀ (suf pre:List Zp) (i:Int),b.f1=pre++suf→i=(pre.length:Int)→Z3e.l0 b pre i=some b.f1:=by
 intro suf
 induction suf with
 | nil=>intro pre i h1 hi;rw[Z3e.l0,if_neg (by rw[h1];simp[hi]),h1];simp
 | cons r suf ih =>
  intro pre i h1 hi;have hlen:b.f1.length=pre.length+(suf.length+1):=by rw[h1];simp
  rw[Z3e.l0,if_pos (by simp;omega),Z06 h1 hi,sb,chkB (by simp;omega),Z8 (by omega) (by omega)];exact ih (pre++[r]) (i+1) (by simp[h1]) (by simp;omega)
theorem fr16 (b:Z2) (hl:b.f1.length≤100000000):Z3e.f b=some (ofBlk b):=by
 unfold Z3e.f;rw[fr_l0_16 b hl b.f1 [] 0 rfl rfl,sb];rfl
theorem enc_bad16 {b:Z2} (hl:b.f1.length<1000000000) (hb:∀ r∈b.f1,RowB r) (h:blkC b≠0):Zl.f b=some ([],blkC b):=by
 unfold Zl.f;rw[check16 b hl hb,sb,if_pos (by simpa using h)]
variable {b:List Int}
theorem cnt2_ge1 (n:Nat):1≤(cnt2 n).length:=by
 unfold cnt2;simp only[List.length_append,List.length_replicate];by_cases h:cls (blen n)<6
 ·rw[if_pos h];simp only[List.length_cons,List.length_nil];omega
 ·omega
theorem cnt2_ge5 {n:Nat} (h:1≤n):5≤(cnt2 n).length:=by
 have hb:1≤blen n:=by rw[Z9g (by omega)];omega
 have hc : 1 ≤ cls (blen n) := by unfold cls; repeat' split
                                  all_goals omega
 unfold cnt2;simp only[List.length_append,List.length_replicate,Z5e];have hw:3≤wid (cls (blen n)):=by
  have:=Z8x (blen n);generalize cls (blen n)=c at *;rcases(show c=1∨c=2∨c=3∨c=4∨c=5∨c=6 by omega) with rfl | rfl | rfl | rfl | rfl | rfl<;>decide
 by_cases h:cls (blen n)<6
 ·rw[if_pos h];simp;omega
 ·rw[if_neg h];simp;omega
theorem drop_ge {a a1:Nat} {u:List Bool} (ha:a≤8*b.length) (h1:a1≤8*b.length) (h:(Z12 b).drop a=u++(Z12 b).drop a1):a1=a+u.length:=by
 have hl:=congrArg List.length h;simp only[List.length_drop,Z2j,List.length_append] at hl;omega
theorem Z5p (hb:Src b) {m:Nat} (hm:m<9223372036854775808) {a:Nat} (ha:a≤8*b.length) (e:Int):∃ (n a1:Nat) (e1:Int),Z7.f b (a:Int) e (m:Int)=some ((n:Int),(a1:Int),e1)∧a1≤8*b.length∧n≤m∧(e≠0→e1≠0)∧(e1=0→a≤a1):=by
 by_cases he:e=0
 ·subst he
  obtain⟨n,a1,e1,s1,s2,s3,s4⟩:=Zdb hb hm ha;refine⟨n,a1,e1,s1,s2,s3,fun h=>absurd rfl h,fun h => ?_⟩;rcases s4 with ⟨_,s4⟩ | ⟨s4,_⟩
  ·have:=drop_ge ha s2 s4;omega
  ·exact absurd h s4
 ·exact⟨0,a,e,Zas he,ha,by omega,fun h=>h,fun h=>absurd h he⟩
theorem small_tab (hb:Src b) {W:List ByteArray} (hW:W.length≤65536) {a:Nat} (ha:a≤8*b.length) (e:Int):∃ (n a1:Nat) (e1:Int),Z7.f b (a:Int) e (i64.wrap ((W.length:Int)-(1:Int)))=some ((n:Int),(a1:Int),e1)∧a1≤8*b.length∧(e1=0→n<W.length)∧(e≠0→e1≠0)∧(e1=0→a≤a1):=by
 rw[Z8 (by omega) (by omega)];by_cases h0:W.length=0
 ·by_cases he:e=0
  ·subst he
   obtain⟨a1,e1,h1,h2,h3⟩:=small_neg hb ha;rw[show(W.length:Int)-1 = -1 by omega];exact⟨0,a1,e1,h1,h2,fun h=>absurd h h3,fun h=>absurd rfl h,fun h=>absurd h h3⟩
  ·exact⟨0,a,e,Zas he,ha,fun h=>absurd h he,fun h=>h,fun h=>absurd h he⟩
 ·obtain⟨n,a1,e1,h1,h2,h3,h4,h5⟩:=Z5p         hb (m:=W.length-1) (by omega) ha e
  rw[show(W.length:Int)-1=((W.length-1:Nat):Int) by omega];exact⟨n,a1,e1,h1,h2,fun _=>by omega,h4,h5⟩
theorem key_tot_l1 (l:List Z0f) (x:Z0f) (j:Int) (o:List Int) (h0:x.f0.size≤2000) (h1:x.f1.size≤2000) (ho:o.length≤1000000):∃ o',Z1c.l1 l x j o 0=some o'∧o'.length=o.length+x.f0.size+x.f1.size+2:=by
 have b0:=Z4i x.f0;have b1:=Z4i x.f1;rw[Z1c.l1,if_pos (by decide),chkB (by decide),if_pos (by decide),sb,chkB (by simp;omega),chkB (by simp;omega),show i64.wrap (0+1)=1 by decide];rw[Z1c.l1,if_pos (by decide),chkB (by decide),if_neg (by decide),sb,chkB (by simp;omega),chkB (by simp;omega),show i64.wrap (1+1)=2 by decide];rw[Z1c.l1,if_neg (by decide)];exact⟨_,rfl,by simp;omega⟩
theorem key_tot_l0 (l:List Z0f) (hl:l.length≤16) (hs:∀ x∈l,x.f0.size≤2000∧x.f1.size≤2000):∀ (suf pre:List Z0f) (o:List Int) (i:Int),l=pre++suf→i=(pre.length:Int)→o.length≤4002*pre.length→∃ o',Z1c.l0 l o i=some o'∧o'.length≤4002*l.length:=by
 intro suf
 induction suf with
 | nil=>intro pre o i h1 hi ho;rw[Z1c.l0,if_neg (by rw[h1];simp[hi])];exact⟨o,rfl,by rw[h1];simpa using ho⟩
 | cons x suf ih =>
  intro pre o i h1 hi ho;have hlen:l.length=pre.length+(suf.length+1):=by rw[h1];simp
  have hx:=hs x (by rw[h1];simp);obtain⟨o',e,q⟩:=key_tot_l1 l x i o hx.1 hx.2 (by omega);rw[Z1c.l0,if_pos (by simp;omega),Z06 h1 hi,sb,e,sb,Z8 (by omega) (by omega)];exact ih (pre++[x]) o' (i+1) (by simp[h1]) (by simp;omega) (by simp;omega)
theorem key_tot (l:List Z0f) (hl:l.length≤16) (hs:∀ x∈l,x.f0.size≤2000∧x.f1.size≤2000):∃ k,Z1c.f l=some k∧k.size≤70000:=by
 unfold Z1c.f;obtain⟨o,e,q⟩:=key_tot_l0 l hl hs l [] [] 0 rfl rfl (by simp);rw[e,sb];exact⟨_,rfl,by rw[Zet];omega⟩
theorem rt_l0 (hb:Src b) {W:List ByteArray} (hW:W.length≤65536) (hw:∀ w∈W,w.size≤2000) (t:Int×Int×Int) (n:Nat) (hn:n≤16) (ht:t.1=(n:Int)):∀ (m:Nat) (acc:List Z0f) (a:Nat) (e i:Int),i+m=n→0≤i→(acc.length:Int)≤i→a≤8*b.length→(∀ x∈acc,x.f0.size≤2000∧x.f1.size≤2000) →
  ∃ (l:List Z0f) (a1:Nat) (e1:Int),Z0i.l0 b W t (a:Int) e acc i=some ((a1:Int),e1,l)∧a1≤8*b.length∧(e≠0→e1≠0)∧(e1=0→a≤a1)∧l.length≤16∧∀ x∈l,x.f0.size≤2000∧x.f1.size≤2000:=by
 intro m
 induction m with
 | zero =>
  intro acc a e i hi h0 hacc ha hx;rw[Z0i.l0,if_neg (by rw[ht];simp;omega),sb,if_neg (by simp)];exact⟨acc,a,e,rfl,ha,fun h=>h,fun _=>Nat.le_refl _,by omega,hx⟩
 | succ m ih =>
  intro acc a e i hi h0 hacc ha hx;by_cases he:e=0
  case neg =>
   rw[Z0i.l0,if_pos (by rw[ht];simp;omega),Zb5,sb,sb,if_neg (by simpa using he)];exact⟨acc,a,e,rfl,ha,fun h=>h,fun _=>Nat.le_refl _,by omega,hx⟩
  subst he;obtain⟨n1,a1,e1,p1,p2,p3,p4,p5⟩:=small_tab hb hW ha 0;obtain⟨n2,a2,e2,q1,q2,q3,q4,q5⟩:=small_tab hb hW p2 e1;rw[Z0i.l0,if_pos (by rw[ht];simp;omega),Zb5,sb,sb,if_pos (by simp),p1,sb];dsimp only;rw[q1,sb];dsimp only;rw[Zb5,sb];by_cases h2:e2=0
  ·have h1:e1=0:=by
    by_cases h:e1=0
    ·exact h
    ·exact absurd h2 (q4 h)
   subst h2;subst h1;have g1:=List.getElem?_eq_getElem (p3 rfl);have g2:=List.getElem?_eq_getElem (q3 rfl);rw[if_pos (by simp),Z4j rfl g1,sb,Z4j rfl g2,sb,chkB (by simp;omega),sb,Z8 (by omega) (by omega)];obtain⟨l,a3,e3,r1,r2,r3,r4,r5,r6⟩:=ih (acc++[(⟨W[n1]'(p3 rfl),W[n2]'(q3 rfl)⟩:Z0f)]) a2 0 (i+1) (by omega) (by omega) (by simp;omega) q2 (fun x hxm=>by
    rcases List.mem_append.1 hxm with h | h
    ·exact hx x h
    ·rw[List.mem_singleton.1 h];exact⟨hw _ (List.getElem_mem _),hw _ (List.getElem_mem _)⟩)
   exact⟨l,a3,e3,r1,r2,fun h=>absurd rfl h,fun h=>by have:=r4 h;have:=p5 rfl;have:=q5 rfl;omega,r5,r6⟩
  ·rw[if_neg (by simpa using h2),sb,Z8     (by omega) (by omega)]
   obtain⟨l,a3,e3,r1,r2,r3,r4,r5,r6⟩:=ih acc a2 e2 (i+1) (by omega) (by omega) (by omega) q2 hx;exact⟨l,a3,e3,r1,r2,fun h=>absurd rfl h,fun h=>absurd h (r3 h2),r5,r6⟩
theorem rt_l1 (hb:Src b) (k:ByteArray) (t:Int×Int×Int) (n:Nat) (hn:n≤65536) (ht:t.1=(n:Int)):∀ (m:Nat) (acc:List Z6) (a:Nat) (e i:Int),i+m=n→0≤i→(acc.length:Int)≤32*i→a≤8*b.length →
  ∃ (l:List Z6) (a1:Nat) (e1:Int),Z0i.l1 b k t (a:Int) e acc i=some (acc++l,(a1:Int),e1)∧a1≤8*b.length∧(e≠0→e1≠0)∧l.length≤32*m∧(∀ s∈l,HOk s.f1)∧(e1=0→a≤a1∧13*l.length≤32*(a1-a)):=by
 intro m
 induction m with
 | zero =>
  intro acc a e i hi h0 hacc ha;rw[Z0i.l1,if_neg (by rw[ht];simp;omega),sb,if_neg (by simp)];exact⟨[],a,e,by simp,ha,fun h=>h,by simp,by simp,fun _=>⟨Nat.le_refl _,by simp⟩⟩
 | succ m ih =>
  intro acc a e i hi h0 hacc ha;by_cases he:e=0
  case neg =>
   rw[Z0i.l1,if_pos (by rw[ht];simp;omega),Zb5,sb,sb,if_neg (by simpa using he)];exact⟨[],a,e,by simp,ha,fun h=>h,by simp,by simp,fun _=>⟨Nat.le_refl _,by simp⟩⟩
  subst he;obtain⟨x,a1,e1,k1,k2,k3,_,k5⟩:=Zf8 hb ha 0;have hxl:=Z4i x;have hbl:=hb.len;have hsrc:Src (Z3b x):=⟨Zag x,by omega⟩
  obtain⟨c,d,D1,hr⟩:=dec_tot hsrc;have hc32:c.length≤32∧(∀ s∈c,HOk s.f1)∧(c≠[]→1≤x.size):=by
   rcases hr with ⟨_,rfl⟩ | ⟨_,hc,hne,hk,h00,f,hL⟩
   ·exact⟨by simp,by simp,fun h=>absurd rfl h⟩
   ·refine⟨hc.len,hk,fun _ => ?_⟩
    have h1:=hL.len;have h2:0<(Z6s c).length:=by
     cases c with
     | nil=>exact absurd rfl hne
     | cons s r=>simp[Z6s]
    omega
  rw[Z0i.l1,if_pos (by rw[ht];simp;omega),Zb5,sb,sb,if_pos (by simp),k1,sb];dsimp only;rw[D1,sb];dsimp only;rw[chkB (by omega),Z8 (n:=i+1) (by omega) (by omega)];obtain⟨l,a2,e2,r1,r2,r3,r4,r5,r6⟩:=ih (acc++c) a1 e1 (i+1) (by omega) (by omega) (by simp;omega) k2;refine⟨c++l,a2,e2,by rw[r1,List.append_assoc],r2,fun h=>absurd rfl h,by simp;omega,fun s hs => ?_,fun h2 => ?_⟩
  ·rcases List.mem_append.1 hs with h | h
   ·exact hc32.2.1 s h
   ·exact r5 s h
  ·have h1:e1=0:=by
    by_cases h:e1=0
    ·exact h
    ·exact absurd h2 (r3 h)
   obtain⟨q1,q2⟩:=r6 h2;have h3:=drop_ge ha k2 (k5 rfl h1);rw[Z78,List.length_append,by8_len,hxl] at h3;have h4:=cnt2_ge1 x.size;by_cases hce:c=[]
   ·subst hce;simp;omega
   ·have h5:=hc32.2.2 hce
    have h6:=cnt2_ge5 h5;simp only[List.length_append];omega
structure RowT (a a1:Nat) (e1:Int) (r:Zp):Prop where
 k:r.f0.size≤70000
 n:r.f1.length≤2097152
 h:∀ s∈r.f1,HOk s.f1
 d:e1=0→a≤a1∧13*r.f1.length≤32*(a1-a)
theorem row_tot (hb:Src b) {W:List ByteArray} (hW:W.length≤65536) (hw:∀ w∈W,w.size≤2000) {a:Nat} (ha:a≤8*b.length) (e:Int):∃ (r:Zp) (a1:Nat) (e1:Int),Z0i.f b (a:Int) e W=some (r,(a1:Int),e1)∧a1≤8*b.length∧(e≠0→e1≠0)∧RowT a a1 e1 r:=by
 unfold Z0i.f;obtain⟨n,a1,e1,p1,p2,p3,p4,p5⟩:=Z5p hb (m:=16) (by omega) ha e;rw[show(16:Int)=((16:Nat):Int) from rfl,p1,sb];dsimp only;obtain⟨l,a2,e2,q1,q2,q3,q4,q5,q6⟩:=rt_l0 hb hW hw ((n:Int),(a1:Int),e1) n p3 rfl n [] a1 e1 0 (by omega) (by omega) (by simp) p2 (by simp);rw[q1,sb];dsimp only;obtain⟨k,hk,hks⟩:=key_tot l q5 q6;obtain⟨n3,a3,e3,r1,r2,r3,r4,r5⟩:=Z5p hb (m:=65536) (by omega) q2 e2;rw[hk,sb,show(65536:Int)=((65536:Nat):Int) from rfl,r1,sb];dsimp only;obtain⟨s,a4,e4,t1,t2,t3,t4,t5,t6⟩:=rt_l1 hb k ((n3:Int),(a3:Int),e3) n3 r3 rfl n3 [] a3 e3 0 (by omega) (by omega) (by simp) r2;rw[t1,sb];refine⟨⟨k,[]++s⟩,a4,e4,rfl,t2,fun h=>t3 (r4 (q3 (p4 h))),hks,by simp;omega,by simpa using t5,fun h => ?_⟩;have h3:e3=0:=by
  by_cases c:e3=0
  ·exact c
  ·exact absurd h (t3 c)
 have h2:e2=0:=by
  by_cases c:e2=0
  ·exact c
  ·exact absurd h3 (r4 c)
 have h1:e1=0:=by
  by_cases c:e1=0
  ·exact c
  ·exact absurd h2 (q3 c)
 have:=t6 h;have:=r5 h3;have:=q4 h2;have:=p5 h1;simp only[List.nil_append];omega
end Go.Proofs.YtpoihfcehejgfaaGreat.PvGS2
namespace Go.Proofs.YtpoihfcehejgfaaGreat.PvGS2
open Go Go.Pv Go.Pv.GS Go.IntKind
variable {b:List Int}
theorem end_bad (a e:Int) (he:e≠0):Zz.f b a e=some (e,a,e):=by
 unfold Zz.f;rw[if_neg (by simpa using he),sb,if_neg (by simp),sb,Zz.l0,if_neg (by simpa using he),sb,if_neg (by simp),sb]
theorem bt_l0 (hb:Src b) (hs:b.length≤2000) (a0:List Int) (t1:(List Int)×(List Int)×Int) (h1':t1.1=b) (t2 t3 t4:Int×Int×Int) (n:Nat) (hn:n≤65536) (ht:t4.1=(n:Int)):∀ (m:Nat) (acc:List ByteArray) (a:Nat) (e i:Int),i+m=n→0≤i→(acc.length:Int)≤i→a≤8*b.length→(∀ w∈acc,w.size≤2000) →
  ∃ (l:List ByteArray) (a1:Nat) (e1:Int),Z09.l0 a0 t1 t2 t3 t4 (a:Int) e acc i=some ((a1:Int),e1,l)∧a1≤8*b.length∧(e≠0→e1≠0)∧(e1=0→a≤a1)∧l.length≤n∧(∀ w∈l,w.size≤2000):=by
 intro m
 induction m with
 | zero =>
  intro acc a e i hi h0 hacc ha hx;rw[Z09.l0,if_neg (by rw[ht];simp;omega),sb,if_neg (by simp)];exact⟨acc,a,e,rfl,ha,fun h=>h,fun _=>Nat.le_refl _,by omega,hx⟩
 | succ m ih =>
  intro acc a e i hi h0 hacc ha hx;by_cases he:e=0
  case neg =>
   rw[Z09.l0,if_pos (by rw[ht];simp;omega),h1',Zb5,sb,sb,if_neg (by simpa using he)];exact⟨acc,a,e,rfl,ha,fun h=>h,fun _=>Nat.le_refl _,by omega,hx⟩
  subst he;obtain⟨x,a1,e1,k1,k2,k3,_,k5⟩:=Zf8 hb ha 0;rw[Z09.l0,if_pos (by rw[ht];simp;omega),h1',Zb5,sb,sb,if_pos (by simp),k1,sb];dsimp only;rw[chkB (by simp;omega),Z8 (n:=i+1) (by omega) (by omega)];obtain⟨l,a2,e2,r1,r2,r3,r4,r5,r6⟩:=ih (acc++[x]) a1 e1 (i+1) (by omega) (by omega) (by simp;omega) k2 (fun w hw=>by
   rcases List.mem_append.1 hw with h | h
   ·exact hx w h
   ·rw[List.mem_singleton.1 h];omega)
  refine⟨l,a2,e2,r1,r2,fun h=>absurd rfl h,fun h => ?_,r5,r6⟩;have h1:e1=0:=by
   by_cases c:e1=0
   ·exact c
   ·exact absurd h (r3 c)
  have:=r4 h;have:=drop_ge ha k2 (k5 rfl h1);omega
theorem bt_l1 (hb:Src b) (a0:List Int) (t1:(List Int)×(List Int)×Int) (h1':t1.1=b) (t2 t3 t4:Int×Int×Int) {W:List ByteArray} (hW:W.length≤65536) (hw:∀ w∈W,w.size≤2000) (n:Nat) (hn:n≤64) (ht:t4.1=(n:Int)):∀ (m:Nat) (acc:List Zp) (a:Nat) (e i:Int),i+m=n→0≤i→(acc.length:Int)≤i→a≤8*b.length →
  ∃ (l:List Zp        ) (a1:Nat) (e1:Int),           Z09.l1 a0 t1 t2 t3 t4 W (a:Int) e acc i=some ((a1:Int),e1,acc++l)∧a1≤8*b.length∧(e≠0→e1≠0)∧l.length≤m∧(∀ r∈l,r.f0.size≤70000∧r.f1.length≤2097152∧∀ s∈r.f1,HOk s.f1) ∧
   (e1=0→a≤a1∧13*(l.map fun r=>r.f1.length).sum≤32*(a1-a)):=by
 intro m
 induction m with
 | zero =>
  intro acc a e i hi h0 hacc ha;rw[Z09.l1,if_neg (by rw[ht];simp;omega),sb,if_neg (by simp)];exact⟨[],a,e,by simp,ha,fun h=>h,by simp,by simp,fun _=>⟨Nat.le_refl _,by simp⟩⟩
 | succ m ih =>
  intro acc a e i hi h0 hacc ha;by_cases he:e=0
  case neg =>
   rw[Z09.l1,if_pos (by rw[ht];simp;omega),h1',Zb5,sb,sb,if_neg (by simpa using he)];exact⟨[],a,e,by simp,ha,fun h=>h,by simp,by simp,fun _=>⟨Nat.le_refl _,by simp⟩⟩
  subst he;obtain⟨r,a1,e1,k1,k2,k3,k4⟩:=row_tot hb hW hw ha 0;rw[Z09.l1,if_pos (by rw[ht];simp;omega),h1',Zb5,sb,sb,if_pos (by simp),k1,sb];dsimp only;rw[chkB (by simp;omega),Z8 (n:=i+1) (by omega) (by omega)];obtain⟨l,a2,e2,r1,r2,r3,r4,r5,r6⟩:=ih (acc++[r]) a1 e1 (i+1) (by omega) (by omega) (by simp;omega) k2;refine⟨r::l,a2,e2,by rw[r1,List.append_assoc];rfl,r2,fun h=>absurd rfl h,by simp;omega,fun q hq => ?_,fun h => ?_⟩
  ·rcases List.mem_cons.1 hq with rfl | h
   ·exact⟨k4.k,k4.n,k4.h⟩
   ·exact r5 q h
  ·have h1:e1=0:=by
    by_cases c:e1=0
    ·exact c
    ·exact absurd h (r3 c)
   have h2:=r6 h;have h3:=k4.d h1;rw[List.map_cons,List.sum_cons];omega
theorem bdec_tot {y:List Int} (hy:∀ x∈y,Byte x) (hl:y.length≤1500):(∃ k:Int,Z09.f y=some (⟨⟨0,0,0⟩,[]⟩,k)∧(k=6∨k=7∨k=8)) ∨
  ∃ (d:Z2),Z09.f y=some (d,0)∧BSz d∧BlkOK d∧Zl.f d=some (y,0):=by
 rcases open_tot hy (by omega) with h | h | ⟨x,rest,h,hx,hyx⟩
 ·refine .inl ⟨7,?_,by simp⟩
  unfold Z09.f;rw[h,sb,if_pos (by simp)]
 ·refine .inl ⟨8,?_,by simp⟩
  unfold Z09.f;rw[h,sb,if_pos (by simp)]
 have hxl:x.length≤1500:=by
  have:=congrArg List.length hyx;rw[List.length_append,sealB_len] at this;omega
 have hs:Src x:=⟨hx,by omega⟩
 obtain⟨n2,a1,e1,s1,s2,s3,s4,s5⟩:=Z5p hs (m:=4) (by omega) (Nat.zero_le _) 0;obtain⟨n0,a2,e2,u1,u2,u3,u4,u5⟩:=Z5p hs (m:=1099511627776) (by omega) s2 e1;obtain⟨n,a3,e3,v1,v2,v3,v4,v5⟩:=Z5p hs (m:=65536) (by omega) u2 e2;obtain⟨W,a4,e4,w1,w2,w3,w4,w5,w6⟩:=bt_l0 hs (by omega) y (x,rest,0) rfl ((n2:Int),(a1:Int),e1) ((n0:Int),(a2:Int),e2) ((n:Int),(a3:Int),e3) n v3 rfl n [] a3 e3 0 (by omega) (by omega) (by simp) v2 (by simp);obtain⟨n5,a5,e5,x1,x2,x3,x4,x5⟩:=Z5p hs (m:=64) (by omega) w2 e4;obtain⟨l,a6,e6,y1,y2,y3,y4,y5,y6⟩:=bt_l1 hs y (x,rest,0) rfl ((n2:Int),(a1:Int),e1) ((n0:Int),(a2:Int),e2) ((n5:Int),(a5:Int),e5) (W:=W) (by omega) w6 n5 x3 rfl n5 [] a5 e5 0 (by omega) (by omega) (by simp) x2;rw[show((0:Nat):Int)=(0:Int) from rfl,show((4:Nat):Int)=(4:Int) from rfl] at s1;rw[show((1099511627776:Nat):Int)=(1099511627776:Int) from rfl] at u1;rw[show((65536:Nat):Int)=(65536:Int) from rfl] at v1;rw[show((64:Nat):Int)=(64:Int) from rfl] at x1;have pre:Z09.f y=(((((Zz.f x (a6:Int) e6)>>=fun t5641=>if(t5641.1 != (0:Int))=true then(some true) else(some (decide ((rest.length:Int)>(0:Int))))):Option (Bool))>>=fun x5644=>if x5644=true then(some ((⟨(⟨0,0,0⟩:Z05),[]⟩:Z2),6)) else((Zl.f (⟨(⟨(n0:Int),i64.wrap ((n0:Int)+wide (n2:Int)),(n2:Int)⟩:Z05),l⟩:Z2))>>=fun t5648=>((if(t5648.2 != (0:Int))=true then(some true) else((Z0r.f t5648.1 y)>>=fun t5654=>some (!t5654))):Option (Bool))>>=fun x5656=>if x5656=true then(some ((⟨(⟨0,0,0⟩:Z05),[]⟩:Z2),6)) else(some ((⟨(⟨(n0:Int),i64.wrap ((n0:Int)+wide (n2:Int)),(n2:Int)⟩:Z05),l⟩:Z2),0))))):=by
  have q4:=wd_eq (k:=(n2:Int)) (by omega) (by omega);unfold Zb.wd at q4;unfold Z09.f;rw[h,sb,if_neg (by simp)];dsimp only;rw[show Z57.f x=some () from rfl,sb,s1,sb];dsimp only;rw[u1,sb];dsimp only;rw[width_ok (by omega) (by omega),sb,v1,sb];dsimp only;rw[w1,sb];dsimp only;rw[x1,sb];dsimp only;rw[y1,sb,q4];rfl
 have six:Z09.f y=some (⟨⟨0,0,0⟩,[]⟩,6)→(∃ k:Int,Z09.f y=some (⟨⟨0,0,0⟩,[]⟩,k)∧(k=6∨k=7∨k=8)):=fun h=>⟨6,h,by simp⟩
 by_cases h6:e6=0
 case neg =>
  refine .inl (six ?_);rw[pre,end_bad _ _ h6,sb];dsimp only;rw[if_pos (by simpa using h6),sb,if_pos rfl]
 subst h6;obtain⟨r,a',e',g1⟩:=end_tot hs y2 0;rw[g1,sb] at pre;dsimp only at pre;by_cases hr:r=0∧rest=[]
 case neg =>
  refine .inl (six ?_);rw[pre];by_cases h1:r=0
  ·have h2:rest≠[]:=fun h=>hr ⟨h1,h⟩
   have h3:=List.length_pos_iff.2 h2;rw[if_neg (by simpa using h1),sb,if_pos (by simp;omega)]
  ·rw[if_pos (by simpa using h1),sb,if_pos rfl]
 obtain⟨rfl,rfl⟩:=hr;rw[if_neg (by simp),sb,if_neg (by simp)] at pre;have hw:=wide_pos (n2:Int);generalize hd:(⟨(⟨(n0:Int),i64.wrap ((n0:Int)+wide (n2:Int)),(n2:Int)⟩:Z05),l⟩:Z2)=d at pre;have hdl:d.f1=l:=by rw[← hd]
 have hsum:=(y6 rfl).2;have hz:BSz d:=by
  refine⟨fun q hq => ?_,by rw[hdl];omega,by rw[hdl];omega⟩;rw[hdl] at hq;obtain⟨z1,z2,z3⟩:=y5 q hq;exact⟨by omega,by omega,fun s hs=>⟨(z3 s hs).fits,by have:=(z3 s hs).pos;omega,by have:=(z3 s hs).neg;omega⟩⟩
 by_cases hc:blkC d=0
 case neg =>
  refine .inl (six ?_);rw[pre,enc_bad16 hz.len hz.rows hc,sb];dsimp only;rw[if_pos (by simpa using hc),sb,if_pos rfl]
 have hb:=(blkC_ok _).1 hc;obtain⟨W',x',f,hT,hL,hE⟩:=enc16 hz hb;have hbl:=blkB_len hz hb hT;have hll:=hL.len;have hlt:=hL.lt;rw[hE,sb] at pre;dsimp only at pre;rw[if_neg (by simp),eqbytes _ _ (by rw[sealB_len];omega),sb,sb] at pre;by_cases hq:sealB x'=y
 ·rw[decide_eq_true hq,if_neg (by simp)] at pre
  exact .inr ⟨d,pre,hz,hb,by rw[hE,hq]⟩
 ·rw[decide_eq_false hq,if_pos (by simp)] at pre
  exact .inl (six pre)
theorem blockReads_R (a0:List Int) (R0:a0.length≤140737488351232∧∀ y∈a0,Rng 0 256 y):Z4x.f a0=some true:=by
 unfold Z4x.f;by_cases hl:a0.length>1500
 ·rw[if_pos (by simp;omega),awake16,sb]
 rw[if_neg (by simp;omega)];rcases bdec_tot (fun x hx=>R0.2 x hx) (by omega) with ⟨k,h,hk⟩ | ⟨d,h,hz,hb,hE⟩
 ·rw[h,sb]
  dsimp only;rw[if_pos (by rcases hk with rfl | rfl | rfl<;>decide),awake16,sb,if_pos rfl];rcases hk with rfl | rfl | rfl<;>rfl
 rw[h,sb];rw[show(⟨(⟨((d,(0:Int)).1.f0).f0,((d,(0:Int)).1.f0).f1,((d,(0:Int)).1.f0).f2⟩:Z05),((d,(0:Int)).1).f1⟩:Z2)=d from rfl];have h5:=hb.len;have hto:Zek (ofBlk d)=d:=rfl;rw[if_neg (by simp),awake16,sb,if_pos rfl,fr16 d (by omega),sb,rcheck16 (ofBlk d) (by show d.f1.length<_;omega) hz.rows,sb,hto,(blkC_ok _).2 hb,if_pos (by simp),sb];obtain⟨W,x,f,hT,hL,hE2⟩:=enc16 hz hb;rw[renc16 (b:=ofBlk d) hz hb hT hL,sb];rw[hE] at hE2;obtain⟨rfl,_⟩:=Prod.mk.inj (Option.some.inj hE2);rw[sb];simp
end Go.Proofs.YtpoihfcehejgfaaGreat.PvGS2
