import Derived.Test.YtlkonkfkapdimaaGreatDoorPxFeedParts07
set_option linter.unusedVariables false
set_option linter.unusedSimpArgs false
set_option maxRecDepth 10000
namespace Go.Proofs.YtlkonkfkapdimaaGreatDoor.PvGR
open Go Go.Pv Go.IntKind
theorem digB (d:Nat) (h:d<10):(UInt8.ofNat (48+d)).toNat=48+d:=by simp;omega
theorem Z66 (u:Nat):∀ c∈Lib.decDigits u,48≤c.toNat∧c.toNat≤57:=by
 induction u using Nat.strongRecOn with
 | _ u ih =>
  intro c hc;rw[Lib.decDigits] at hc;split at hc
  ·simp only[List.mem_singleton] at hc;subst hc;rw[digB _ (by omega)];omega
  ·rcases List.mem_append.1 hc with h | h
   ·exact ih (u / 10) (by omega) c h
   ·simp only[List.mem_singleton] at h;subst h;rw[digB _ (by omega)];omega
def numV (l:List UInt8):Nat:=l.foldl (fun a c=>a*10+(c.toNat-48)) 0
theorem Z5j (l:List UInt8) (c:UInt8):numV (l++[c])=numV l*10+(c.toNat-48):=by simp[numV]
theorem numV_le (l m:List UInt8):numV l≤numV (l++m):=by
 induction m generalizing l with
 | nil=>simp
 | cons c m ih =>
  have:=ih (l++[c]);rw[Z5j,List.append_assoc,List.singleton_append] at this;omega
theorem Z4s (u:Nat):numV (Lib.decDigits u)=u:=by
 induction u using Nat.strongRecOn with
 | _ u ih =>
  rw[Lib.decDigits];split
  ·rename_i h;have:=digB u h;show 0*10+((UInt8.ofNat (48+u)).toNat-48)=u;omega
  ·rename_i h;rw[Z5j,ih (u / 10) (by omega),digB _ (by omega)];omega
theorem dec_ne (u:Nat):Lib.decDigits u≠[]:=by rw[Lib.decDigits];split<;>simp
theorem ndig_le:∀ (k u:Nat),u<10 ^ k→1≤k→Lib.nDigits u≤k
 | 0,_,_,h=>by omega
 | k+1,u,h,_=>by
  by_cases hu:u<10
  ·rw[Lib.nDigits_small hu];omega
  ·rw[Lib.nDigits_big hu]
   rw[Nat.pow_succ] at h;have:1≤k:=by cases k with | zero=>simp at h;omega | succ k=>omega
   have:=ndig_le k (u / 10) (by omega) this;omega
theorem Z5a {u:Nat} (h:u<18446744073709551616):(Lib.decDigits u).length≤20:=by
 rw[Lib.decDigits_length];exact ndig_le 20 u (by omega) (by omega)
theorem Z2h {n:Int} (h0 : -18446744073709551616<n) (h1:n<18446744073709551616):(Lib.itoa n).length≤21:=by
 unfold Lib.itoa;split
 ·have:=Z5a (u:=n.natAbs) (by omega);simp;omega
 ·have:=Z5a (u:=n.toNat) (by omega);omega
theorem Z4j (n:Int):Lib.itoa n≠[]:=by
 unfold Lib.itoa;split
 ·simp
 ·exact dec_ne _
theorem dec_head (u:Nat):∃ c r,Lib.decDigits u=c::r∧48≤c.toNat∧c.toNat≤57:=by
 cases h:Lib.decDigits u with
 | nil=>exact absurd h (dec_ne u)
 | cons c r=>exact⟨c,r,rfl,Z66 u c (by rw[h];simp)⟩
theorem Z2n {n:Int} {c:UInt8} (h:c.toNat<48∧c.toNat≠45∨57<c.toNat):c ∉ Lib.itoa n:=by
 intro hc;unfold Lib.itoa at hc;split at hc
 ·rcases List.mem_cons.1 hc with e | e
  ·subst e;simp at h
  ·have:=Z66 _ c e;omega
 ·have:=Z66 _ c hc;omega
theorem parseU_l0 (s:ByteArray) (hsz:s.size≤1000):∀ (suf pre:List UInt8) (v i:Int),L s=pre++suf→i=(pre.length:Int)→v=(numV pre:Int)→(∀ c∈L s,48≤c.toNat∧c.toNat≤57)→numV (L s)<18446744073709551616 →
  Zl.l0 s 10 64 v i=some (numV (L s):Int):=by
 intro suf;have hbl:(Z0m s).length=s.size:=by rw[Z37,← Zz];simp[ints]
 induction suf with
 | nil =>
  intro pre v i h1 hi hv hd hn;rw[List.append_nil] at h1;have:pre.length=s.size:=by rw[← h1,Zz]
  rw[Zl.l0,if_neg (by rw[hbl];simp;omega),hv,h1]
 | cons c suf ih =>
  intro pre v i h1 hi hv hd hn;have hlen:s.size=pre.length+(suf.length+1):=by rw[← Zz,h1];simp
  have hc:=hd c (by rw[h1];simp);have hm:numV (pre++[c])≤numV (L s):=by rw[h1,show pre++c::suf=(pre++[c])++suf by simp];exact numV_le _ _
  rw[Z5j] at hm;have hat:at? (Z0m s) i=some (c.toNat:Int):=by
   rw[Z37,h1];exact Z1v (pre:=ints pre) (suf:=ints suf) (by simp[ints]) (by simp[ints];exact hi)
  rw[Zl.l0,if_pos (by rw[hbl];simp;omega),hat,sb,if_neg (by simp;omega),sb,if_neg (by simp),if_pos (by simp;omega),show decide (((c.toNat:Nat):Int)≤57)=true by simp;omega,sb,if_pos rfl];have w8:u8.wrap ((c.toNat:Int)-48)=((c.toNat-48:Nat):Int):=by
   simp only[IntKind.wrap,IntKind.signed,IntKind.bits];simp;omega
  have w10:u8.wrap (10:Int)=10:=by decide
  have u10:u64.wrap (10:Int)=10:=by decide
  have k1:v*10+((c.toNat-48:Nat):Int)<18446744073709551616:=by rw[hv];omega
  have e1:u64.wrap (v*10)=v*10:=wrapU (by omega) (by omega);have e2:u64.wrap ((c.toNat-48:Nat):Int)=((c.toNat-48:Nat):Int):=wrapU (by omega) (by omega);have e3:u64.wrap (v*10+((c.toNat-48:Nat):Int))=v*10+((c.toNat-48:Nat):Int):=wrapU (by omega) k1;have m64:u64.wrap (u64.wrap ((1:Int)*2 ^ (min (Int.toNat (u64.wrap (64:Int))) 64))-(1:Int))=18446744073709551615:=by decide
  rw[w8,w10,u10,if_neg (by simp;omega),if_neg (by simp;omega),e1,e2,e3,if_neg (by simp;omega),m64,show decide (v*10+((c.toNat-48:Nat):Int)>18446744073709551615)=false by simp;omega,sb,if_neg (by simp),Ze (n:=i+1) (by omega) (by omega)];exact ih (pre++[c]) _ _ (by rw[h1];simp) (by simp;omega) (by rw[Z5j,hv];omega) hd hn
theorem Z7j (s:ByteArray) (hsz:s.size≤1000) (h0:L s≠[]) (hd:∀ c∈L s,48≤c.toNat∧c.toNat≤57) (hn:numV (L s)<18446744073709551616):Zl.f s 10 64=some (numV (L s):Int):=by
 unfold Zl.f;have he:(s.toList==(⟨#[]⟩:ByteArray).toList)=false:=by rw[Zv,Zv];simpa using h0
 rw[he,if_neg (by simp),if_pos (by decide),show decide ((10:Int)≤36)=true by decide,sb,if_pos rfl,if_neg (by decide),if_neg (by decide),show decide ((64:Int)>64)=false by decide,sb,if_neg (by simp),if_pos (by decide),chkB (by decide),parseU_l0 s hsz (L s) [] 0 0 rfl rfl rfl hd hn,sb]
theorem parseUx_dec (s:ByteArray) (u:Nat) (h:L s=Lib.decDigits u) (hu:u<18446744073709551616):Z10.f s 10 64=some (u:Int):=by
 unfold Z10.f;have hl:=Z5a hu;rw[Z7j s (by rw[← Zz,h];omega) (by rw[h];exact dec_ne u) (by rw[h];exact Z66 u) (by rw[h,Z4s];exact hu),sb,h,Z4s]
theorem extract1 (s:ByteArray) (c:UInt8) (r:List UInt8) (h:L s=c::r):L (s.extract (Int.toNat (1:Int)) (Int.toNat (s.size:Int)))=r:=by
 rw[Z18,h];have:s.size=r.length+1:=by rw[← Zz,h];simp
 simp[this]
theorem parseI_itoa (s:ByteArray) (n:Int) (h:L s=Lib.itoa n) (h0 : -9223372036854775808≤n) (h1:n<9223372036854775808):Z1b.f s 10 64=some n:=by
 unfold Z1b.f Z1n.f;have hne:L s≠[]:=by rw[h];exact Z4j n
 have he:(s.toList==(⟨#[]⟩:ByteArray).toList)=false:=by rw[Zv,Zv];simpa using hne
 have hpos:0<s.size:=by rw[← Zz];exact List.length_pos_iff.2 hne
 have c63:u64.wrap ((1:Int)*2 ^ (min (Int.toNat (u64.wrap (i64.wrap ((64:Int)-1)))) 64))=9223372036854775808:=by decide
 rw[he,if_neg (by simp),chkB (by omega)];by_cases hn:n<0
 ·have hL:L s=45::Lib.decDigits n.natAbs:=by rw[h,Lib.itoa,if_pos hn]
  have hb:bt s 0=45:=bt_L (i:=0) (c:=45) (by rw[hL];rfl);rw[hb,if_neg (by decide),if_pos (by decide),chkB (by omega),sb];dsimp only;rw[sb];dsimp only;have hx:=extract1 s 45 _ hL;have hl:=Z5a (u:=n.natAbs) (by omega);rw[Z7j _ (by rw[← Zz,hx];omega) (by rw[hx];exact dec_ne _) (by rw[hx];exact Z66 _) (by rw[hx,Z4s];omega),sb,hx,Z4s,if_neg (by decide),chkB (by decide),if_neg (by simp),sb,if_neg (by simp),if_pos rfl,c63,show decide (((n.natAbs:Nat):Int)>9223372036854775808)=false by simp;omega,sb,if_neg (by simp),if_pos rfl,sb];rw[sb];congr 1;rw[Z6z,Z6z];omega
 ·have hL:L s=Lib.decDigits n.toNat:=by rw[h,Lib.itoa,if_neg hn]
  obtain⟨c,r,e,c1,c2⟩:=dec_head n.toNat;have hb:bt s 0=(c.toNat:Int):=bt_L (i:=0) (c:=c) (by rw[hL,e];rfl);have hl:=Z5a (u:=n.toNat) (by omega);rw[hb,if_neg (by simp;omega),if_neg (by simp;omega),sb];dsimp only;rw[sb];dsimp only;rw[Z7j _ (by rw[← Zz,hL];omega) hne (by rw[hL];exact Z66 _) (by rw[hL,Z4s];omega),sb,hL,Z4s,if_neg (by decide),chkB (by decide),if_pos (show(!false)=true from rfl),c63,show decide (((n.toNat:Nat):Int)≥9223372036854775808)=false by simp;omega,sb,if_neg (by simp),if_neg (by simp),sb,if_neg (by simp),if_neg (by simp),sb];rw[sb];congr 1;rw[Z6z];omega
def txt (l:List UInt8):ByteArray:=⟨l.toArray⟩
theorem Z1r (l:List UInt8):L (txt l)=l:=by simp[txt]
theorem Z0q (l:List UInt8):(txt l).size=l.length:=by rw[← Zz,Z1r]
theorem fmtI (n:Int) (h0 : -9223372036854775808≤n) (h1:n<9223372036854775808):Z03.f n 10=some (txt (Lib.itoa n)):=by
 unfold Z03.f Z05.f;rw[chkB ⟨h0,by omega,rfl⟩];rfl
theorem fmtA (n:Int) (h0 : -9223372036854775808≤n) (h1:n<9223372036854775808):Z0l.f n=some (txt (Lib.itoa n)):=by
 unfold Z0l.f Z2c.f Z05.f;rw[chkB ⟨h0,by omega,rfl⟩];rfl
theorem fmtU (u:Int) (h0:0≤u) (h1:u<18446744073709551616):Z00.f u 10=some (txt (Lib.itoa u)):=by
 unfold Z00.f Z0p.f;rw[chkB ⟨h0,by omega,rfl⟩];rfl
theorem Z3u (s:ByteArray) (n:Int) (h:L s=Lib.itoa n) (h0 : -9223372036854775808≤n) (h1:n<9223372036854775808):Z0g.f s=some (n,true):=by
 unfold Z0g.f;rw[parseI_itoa s n h h0 h1,sb,fmtI n h0 h1,sb,Zv,Zv,Z1r,h];simp
theorem Z8n (s:ByteArray) (n:Int) (h:L s=Lib.itoa n) (h0:0≤n) (h1:n<18446744073709551616):Z22.f s=some (n,true):=by
 unfold Z22.f;have hL:L s=Lib.decDigits n.toNat:=by rw[h,Lib.itoa,if_neg (by omega)]
 rw[parseUx_dec s n.toNat hL (by omega),sb,show((n.toNat:Nat):Int)=n by omega,fmtU n h0 h1,sb,Zv,Zv,Z1r,h];simp
theorem refC_l0:∀ (u:Nat) (o:ByteArray),u<18446744073709551616→o.size+(Lib.decDigits u).length≤1000→Z0x.l0 (u:Int) o=some (txt (Lib.decDigits u++L o)):=by
 intro u
 induction u using Nat.strongRecOn with
 | _ u ih =>
  intro o hu ho;have hd:u64.wrap (Int.tdiv (u:Int) 10)=((u / 10:Nat):Int):=by rw[Int.tdiv_eq_ediv_of_nonneg (by omega),wrapU (by omega) (by omega)];omega
  have hm:u8.wrap (u64.wrap (48+Int.tmod (u:Int) 10))=((UInt8.ofNat (48+u % 10)).toNat:Int):=by
   rw[Int.tmod_eq_emod_of_nonneg (by omega),digB _ (by omega),wrapU (by omega) (by omega)];simp only[IntKind.wrap,IntKind.signed,IntKind.bits];simp<;>omega
  have hs:Z3o [((UInt8.ofNat (48+u % 10)).toNat:Int)]=txt [UInt8.ofNat (48+u % 10)]:=Z3v [UInt8.ofNat (48+u % 10)];have hz:(txt [UInt8.ofNat (48+u % 10)]).size=1:=by rw[Z0q];rfl
  rw[Z0x.l0,hd,hm,hs,chkB (by rw[hz];omega)];rw[Lib.decDigits_length] at ho;by_cases h:u<10
  ·rw[if_pos (by simp;omega),Lib.decDigits,dif_pos h,Nat.mod_eq_of_lt h]
   rfl
  ·rw[if_neg (by simp;omega),ih (u / 10) (by omega) _ (by omega) (by rw[ByteArray.size_append,hz,Lib.decDigits_length];rw[Lib.nDigits_big h] at ho;omega)]
   congr 1;apply Z3s;rw[Z1r,Z1r,Z1h,Z1r,Lib.decDigits.eq_1 u,dif_neg h];simp
theorem refC (n:Int) (h0:0≤n) (h1:n<18446744073709551616):Z0x.f n=some (txt (Lib.itoa n)):=by
 unfold Z0x.f;obtain⟨u,rfl⟩:∃ u:Nat,n=u:=⟨n.toNat,by omega⟩
 have hl:=Z5a (u:=u) (by omega);have z:(⟨#[]⟩:ByteArray).size=0:=rfl;rw[refC_l0 u _ (by omega) (by rw[z];omega),sb,Lib.itoa_nonneg];congr 2;exact List.append_nil _
theorem refW (n:Int) (h0 : -9223372036854775808≤n) (h1:n<9223372036854775808):Z2d.f n=some (txt (Lib.itoa n)):=by
 unfold Z2d.f;by_cases h:n<0
 ·have e:u64.wrap (u64.wrap (i64.wrap (0-i64.wrap (n+1)))+1)=((n.natAbs:Nat):Int):=by
   rw[Ze (n:=n+1) (by omega) (by omega),Ze (by omega) (by omega),wrapU_eq,wrapU_eq];omega
  have hl:=Z5a (u:=n.natAbs) (by omega);have z:(⟨#[45]⟩:ByteArray).size=1:=rfl;rw[if_pos (by simpa using h),e,refC _ (by omega) (by omega),sb,Lib.itoa_nonneg,chkB (by rw[Z0q,z];omega)];congr 1;apply Z3s;rw[Z1h,Z1r,Z1r,Lib.itoa,if_pos h];rfl
 ·rw[if_neg (by simpa using h),wrapU (by omega) (by omega),refC _ (by omega) (by omega),sb]
theorem wsG {x:List Int} {s:ByteArray} (h:x.length+s.size≤100000000):Z9.f x s=some (x++Z0m s):=by
 unfold Z9.f Zj.f;rw[sb,chkB (by omega)]
theorem growG {n:Int} (h0:0≤n) (h1:n≤200000000):Zs.f n=some []:=by
 unfold Zs.f Zn.f Z0a.f;rw[sb,if_neg (by simp;omega),Ze (by omega) (by omega)];by_cases h:0<n
 ·rw[if_pos (by simpa using h),chkB (by omega),chkB (by omega),sb,sb]
 ·rw[if_neg (by simpa using h),sb]
def Z6v (c:UInt8):List (List UInt8)→List UInt8
 | []=>[]
 | w::r=>w++r.flatMap (fun b=>c::b)
theorem fjoin_l0 (ws:List ByteArray) (sep:ByteArray) (hl:ws.length≤1000) (hs:∀ w∈ws,w.size≤30000):∀ (suf pre:List ByteArray) (n i:Int),ws=pre++suf→i=(pre.length:Int)→0≤n→n≤100000+30000*pre.length→∃ n',Za.l0 ws sep n i=some n'∧n≤n'∧n'≤40000000:=by
 intro suf
 induction suf with
 | nil=>intro pre n i h1 hi h0 hn;rw[Za.l0,if_neg (by rw[h1];simp[hi])];refine⟨n,rfl,Int.le_refl _,?_⟩;rw[List.append_nil] at h1;rw[← h1] at hn;omega
 | cons w suf ih =>
  intro pre n i h1 hi h0 hn;have hlen:ws.length=pre.length+(suf.length+1):=by rw[h1];simp
  have hw:=hs w (by rw[h1];simp);rw[Za.l0,if_pos (by simp;omega),Z1v h1 hi,sb,Ze (n:=(9223372036854775807:Int)-n) (by omega) (by omega),if_neg (by simp;omega),Ze (n:=n+(w.size:Int)) (by omega) (by omega),Ze (n:=i+1) (by omega) (by omega)];obtain⟨n',e,h2,h3⟩:=ih (pre++[w]) (n+w.size) (i+1) (by simp[h1]) (by simp;omega) (by omega) (by simp;omega);exact⟨n',e,by omega,h3⟩
theorem fjoin_l1 (a0:List ByteArray) (c:UInt8) (rest:List ByteArray) (hr:(a0.drop (Int.toNat 1)).take ((Int.toNat (a0.length:Int))-(Int.toNat 1))=rest) (hl:rest.length≤1000) (hs:∀ w∈rest,w.size≤30000):∀ (suf pre:List ByteArray) (o:List UInt8) (i:Int),rest=pre++suf→i=(pre.length:Int)→o.length≤100000+30001*pre.length →
  Za.l1 a0 (⟨#[c]⟩:ByteArray) (ints o) i=some (ints (o++(suf.map L).flatMap (fun b=>c::b))):=by
 intro suf;have hil:∀ o:List UInt8,(ints o).length=o.length:=fun o=>by simp[ints]
 induction suf with
 | nil=>intro pre o i h1 hi ho;rw[Za.l1,hr,if_neg (by rw[h1];simp[hi])];simp
 | cons w suf ih =>
  intro pre o i h1 hi ho;have hlen:rest.length=pre.length+(suf.length+1):=by rw[h1];simp
  have hw:=hs w (by rw[h1];simp);have z:(⟨#[c]⟩:ByteArray).size=1:=rfl;have b44:Z0m (⟨#[c]⟩:ByteArray)=ints [c]:=by rw[Z37]
  rw[Za.l1,hr,if_pos (by simp;omega),Z1v h1 hi,sb,wsG (by rw[hil,z];omega),sb,b44,← Z45,wsG (by rw[hil,List.length_append];simp;omega),sb,Z37,← Z45,Ze (by omega) (by omega)];have hwl:=Zz w;rw[ih (pre++[w]) _ (i+1) (by simp[h1]) (by simp;omega) (by simp;omega)];simp
theorem fjoin (ws:List ByteArray) (c:UInt8) (hl:ws.length≤1000) (hs:∀ w∈ws,w.size≤30000):Za.f ws (⟨#[c]⟩:ByteArray)=some (txt (Z6v c (ws.map L))):=by
 unfold Za.f
 match ws,hl,hs with
 | [],_,_=>rfl
 | [a],_,_ =>
  rw[if_neg (by simp),if_pos (by simp),show at? [a] 0=some a from rfl,sb];congr 1;apply Z3s;rw[Z1r];simp[Z6v]
 | a::b::r,hl,hs =>
  have hlen:((a::b::r).length:Int)=(r.length:Int)+2:=by simp;omega
  have hrl:r.length≤998:=by simp at hl;omega
  have hdiv:2≤(9223372036854775807:Int) / ((r.length:Int)+1):=Int.le_ediv_of_mul_le (by omega) (by omega);have hdiv2:(9223372036854775807:Int) / ((r.length:Int)+1)≤9223372036854775807:=Int.ediv_le_self _ (by omega);have z:(⟨#[c]⟩:ByteArray).size=1:=rfl;rw[hlen,if_neg (by simp;omega),if_neg (by simp;omega),z,if_pos (by decide),Ze (n:=(r.length:Int)+2-1) (by omega) (by omega),show(r.length:Int)+2-1=(r.length:Int)+1 by omega,chkB (by omega),Int.tdiv_eq_ediv_of_nonneg (by omega),Ze (n:=(9223372036854775807:Int) / ((r.length:Int)+1)) (by omega) (by omega),if_neg (by simp;omega)];have e1:i64.wrap (((1:Nat):Int)*((r.length:Int)+1))=(r.length:Int)+1:=by rw[Ze (by omega) (by omega)];omega
  rw[e1,Int.zero_add,Ze (n:=(r.length:Int)+1) (by omega) (by omega),sb];obtain⟨n',e,h2,h3⟩:=fjoin_l0 (a::b::r) (⟨#[c]⟩:ByteArray) hl hs (a::b::r) [] ((r.length:Int)+1) 0 rfl rfl (by omega) (by simp;omega);have ha:=hs a (by simp);have hal:=Zz a;rw[e,sb,growG (by omega) (by omega),sb,show at? (a::b::r) 0=some a from rfl,sb,wsG (by simp;omega),sb,chkB (by omega),List.nil_append,Z37];have hrest:((a::b::r).drop (Int.toNat 1)).take ((Int.toNat (((a::b::r).length:Nat):Int))-(Int.toNat 1))=b::r:=by
   rw[Int.toNat_natCast];simp
  rw[fjoin_l1 (a::b::r) c (b::r) hrest (by simp;omega) (fun w hw=>hs w (by simp at hw ⊢;exact .inr hw)) (b::r) [] (L a) 0 rfl rfl (by simp;omega),sb];have hne:ints (L a++((b::r).map L).flatMap (fun b=>c::b))≠[]:=by simp[ints]
  have hlen2:(ints (L a++((b::r).map L).flatMap (fun b=>c::b))).length≤9223372036854775807:=by
   have key:∀ (q:List ByteArray),(∀ w∈q,w.size≤30000)→((q.map L).flatMap (fun b=>c::b)).length≤30001*q.length:=fun q=>by
    induction q with
    | nil=>intro _;simp
    | cons x q ih =>
     intro h;have:=ih (fun y hy=>h y (by simp[hy]));have h1:=h x (by simp);have h2:=Zz x;simp only[List.map_cons,List.flatMap_cons,List.length_append,List.length_cons];omega
   have:=key (b::r) (fun w hw=>hs w (by simp at hw ⊢;exact .inr hw));simp only[ints,List.length_map,List.length_append] at this ⊢;simp only[List.length_cons] at this;omega
  have hstr:Zd.f (ints (L a++((b::r).map L).flatMap (fun b=>c::b)))=some ():=by
   unfold Zd.f;rw[chkB hne,chkB ⟨hne,hlen2,Z4o _⟩]
  rw[hstr,sb,Z3v];rfl
def T (c:UInt8) (ws:List (List UInt8)) (rest:List UInt8):List UInt8:=ws.flatMap (fun w=>w++[c])++rest
theorem T_cons (c:UInt8) (w:List UInt8) (ws:List (List UInt8)) (rest:List UInt8):T c (w::ws) rest=w++c::T c ws rest:=by simp[T]
theorem T_nil (c:UInt8) (rest:List UInt8):T c [] rest=rest:=rfl
theorem joinS_T (c:UInt8):∀ (ws:List (List UInt8)) (rest:List UInt8),Z6v c (ws++[rest])=T c ws rest
 | [],rest=>by simp[Z6v,T]
 | [w],rest=>by simp[Z6v,T]
 | w::v::ws,rest=>by
  have:=joinS_T c (v::ws) rest;rw[T_cons,← this];simp[Z6v]
theorem ib_first (c:UInt8):∀ (w r:List UInt8),c ∉ w→Lib.indexByte (w++c::r) c=(w.length:Int)
 | [],r,_=>by simp[Lib.indexByte]
 | b::w,r,h=>by
  have h1:b≠c:=fun e=>h (by simp[e]);have h2:c ∉ w:=fun e=>h (by simp[e]);have:=ib_first c w r h2;rw[List.cons_append,Lib.indexByte,this,if_neg (by simpa using h1),if_neg (by simp<;>omega)];simp
theorem cnt_T (c:UInt8):∀ (ws:List (List UInt8)) (rest:List UInt8),(∀ w∈ws,c ∉ w)→c ∉ rest→Lib.countByte (T c ws rest) c=ws.length
 | [],rest,_,h=>by unfold Lib.countByte;rw[T_nil];exact List.count_eq_zero.2 h
 | w::ws,rest,hw,h=>by
  have:=cnt_T c ws rest (fun v hv=>hw v (by simp[hv])) h;unfold Lib.countByte at this ⊢;rw[T_cons,List.count_append,List.count_cons,this,List.count_eq_zero.2 (hw w (by simp))];simp
theorem btc (c:UInt8):bt (⟨#[c]⟩:ByteArray) 0=(c.toNat:Int):=bt_L (i:=0) (c:=c) rfl
theorem u8c (c:UInt8):(Int.toNat (c.toNat:Int)).toUInt8=c:=by simp
theorem index_ok (s:ByteArray) (c:UInt8):Z1y.f s (⟨#[c]⟩:ByteArray)=some (Lib.indexByte (L s) c):=by
 unfold Z1y.f Z1m.f Zo.f;have z:(⟨#[c]⟩:ByteArray).size=1:=rfl;rw[z,if_neg (by decide),sb];by_cases h:L s=[c]
 ·rw[if_pos (by rw[Zv      ,Zv      ,h];simp),sb,h]
  simp[Lib.indexByte]
 ·have e:((⟨#[c]⟩:ByteArray).toList==s.toList)=false:=by
   rw[Zv,Zv];rw[beq_eq_false_iff_ne];exact fun q=>h q.symm
  rw[e,if_neg (by simp),if_pos (by decide),chkB (by decide),sb,sb,btc,u8c]
theorem split_l0 (a0:ByteArray) (c:UInt8) (n:Int) (N:Nat) (hN:N≤1000000) (hm:i64.wrap ((if i64.wrap ((a0.size:Int)+1)<n then i64.wrap ((a0.size:Int)+1) else n)-1)=(N:Int)) (rest:List UInt8) :
  ∀ (suf pre:List (List UInt8)) (s:ByteArray) (i:Int),pre.length+suf.length=N→L s=T c suf rest→i=(pre.length:Int)→(∀ w∈suf,c ∉ w∧w≠[])→s.size≤1000000 →
   Zm.l0 a0 (⟨#[c]⟩:ByteArray) 0 n s (pre.map txt++List.replicate (suf.length+1) (⟨#[]⟩:ByteArray)) i=some (txt rest,(pre++suf).map txt++[(⟨#[]⟩:ByteArray)],(N:Int)):=by
 intro suf
 induction suf with
 | nil =>
  intro pre s i hp hs hi _ _;rw[Zm.l0,hm,if_neg (by simp at hp;simp;omega)];have:s=txt rest:=Z3s (by rw[hs,Z1r,T_nil]);subst this;simp at hp;simp[hi,hp]
 | cons w suf ih =>
  intro pre s i hp hs hi hw hsz;rw[List.length_cons] at hp;rw[T_cons] at hs;obtain⟨hcw,hwn⟩:=hw w (by simp);have hsl:s.size=w.length+(1+(T c suf rest).length):=by rw[← Zz,hs];simp;omega
  have hwl:0<w.length:=List.length_pos_iff.2 hwn;have hib:Lib.indexByte (L s) c=(w.length:Int):=by rw[hs];exact ib_first c w _ hcw
  have z:(⟨#[c]⟩:ByteArray).size=1:=rfl;have hat:at? (pre.map txt++List.replicate ((w::suf).length+1) (⟨#[]⟩:ByteArray)) i=some (⟨#[]⟩:ByteArray) :=
   Z1v (pre:=pre.map txt) (suf:=List.replicate (suf.length+1) (⟨#[]⟩:ByteArray)) (by simp[List.replicate_succ]) (by simpa using hi)
  rw[Zm.l0,hm,if_pos (by simp;omega),index_ok s c,sb,hib,if_neg (by simp<;>omega),Ze (n:=(w.length:Int)+0) (by omega) (by omega),chkB (by omega),hat,sb,z,Ze (n:=(w.length:Int)+((1:Nat):Int)) (by omega) (by omega),chkB (by omega),Ze (n:=i+1) (by omega) (by omega)];have e1:s.extract (Int.toNat 0) (Int.toNat ((w.length:Int)+0))=txt w:=Z3s (by rw[Z18,hs,Z1r];simp);have e2:L (s.extract (Int.toNat ((w.length:Int)+((1:Nat):Int))) (Int.toNat (s.size:Int)))=T c suf rest:=by
   rw[Z18,hs,show Int.toNat ((w.length:Int)+((1:Nat):Int))=w.length+1 by omega,← List.drop_drop,List.drop_left];rw[List.drop_succ_cons,List.drop_zero,hsl];exact List.take_of_length_le (by omega)
  have e3:(pre.map txt++List.replicate ((w::suf).length+1) (⟨#[]⟩:ByteArray)).set (Int.toNat i) (txt w)=(pre++[w]).map txt++List.replicate (suf.length+1) (⟨#[]⟩:ByteArray):=by
   rw[hi,Int.toNat_natCast,List.length_cons,List.replicate_succ,List.set_append_right _ _ (show(pre.map txt).length≤pre.length by simp)];simp
  rw[e1,e3,ih (pre++[w]) _ (i+1) (by simp;omega) e2 (by simp;omega) (fun v hv=>hw v (by simp[hv])) (by rw[← Zz,e2];omega)];simp
theorem T_len (c:UInt8):∀ (ws:List (List UInt8)) (rest:List UInt8),ws.length≤(T c ws rest).length
 | [],_=>by simp
 | w::ws,rest=>by have:=T_len c ws rest;rw[T_cons];simp;omega
theorem split_fin (ws:List (List UInt8)) (rest:List UInt8) (N:Nat) (h:ws.length=N) (i:Int) (hi:i=(N:Int)+1):((ws.map txt++[(⟨#[]⟩:ByteArray)]).set (Int.toNat (N:Int)) (txt rest)).take (Int.toNat i)=(ws++[rest]).map txt:=by
 subst h;rw[hi,Int.toNat_natCast,List.set_append_right _ _ (show(ws.map txt).length≤ws.length by simp)];simp;exact List.take_of_length_le (by simp<;>omega)
theorem splitN_eq (s:ByteArray) (c:UInt8) (n:Int) (ws:List (List UInt8)) (rest:List UInt8) (hs:L s=T c ws rest) (hn:n=(ws.length:Int)+1) (hw:∀ w∈ws,c ∉ w∧w≠[]) (hsz:s.size≤1000000):Z1c.f s (⟨#[c]⟩:ByteArray) n=some ((ws++[rest]).map txt):=by
 unfold Z1c.f Zm.f;have hl:=T_len c ws rest;rw[← hs,Zz] at hl;have e:((⟨#[c]⟩:ByteArray).toList==(⟨#[]⟩:ByteArray).toList)=false:=by rw[Zv,Zv];rfl
 have hmin:(if i64.wrap ((s.size:Int)+1)<n then i64.wrap ((s.size:Int)+1) else n)=(ws.length:Int)+1:=by
  rw[Ze (by omega) (by omega)];split<;>omega
 have hm:i64.wrap ((if i64.wrap ((s.size:Int)+1)<n then i64.wrap ((s.size:Int)+1) else n)-1)=(ws.length:Int):=by
  rw[hmin,Ze (by omega) (by omega)];omega
 have hl0:=split_l0 s c n ws.length (by omega) hm rest ws [] s 0 (by simp) hs rfl hw hsz;rw[List.map_nil,List.nil_append] at hl0;rw[if_neg (by simp;omega),e,if_neg (by simp),if_neg (by simp;omega),sb,hmin,chkB (by omega),show Int.toNat ((ws.length:Int)+1)=ws.length+1 by omega,hl0,sb];dsimp only;have hat:at? ((([]:List (List UInt8))++ws).map txt++[(⟨#[]⟩:ByteArray)]) (ws.length:Int)=some (⟨#[]⟩:ByteArray):=Z1v (pre:=ws.map txt) (suf:=[]) (by simp) (by simp);rw[hat,sb,Ze (n:=(ws.length:Int)+1) (by omega) (by omega),chkB (by simp;omega),List.nil_append,split_fin ws rest ws.length rfl _ rfl,sb]
theorem split_eq (s:ByteArray) (c:UInt8) (ws:List (List UInt8)) (rest:List UInt8) (hs:L s=T c ws rest) (hw:∀ w∈ws,c ∉ w∧w≠[]) (hr:c ∉ rest) (hsz:s.size≤1000000):Z16.f s (⟨#[c]⟩:ByteArray)=some ((ws++[rest]).map txt):=by
 have hl:=T_len c ws rest;rw[← hs,Zz] at hl;have hc:Lib.countByte s.data.toList (Int.toNat (bt (⟨#[c]⟩:ByteArray) 0)).toUInt8=ws.length:=by
  rw[btc,u8c,show s.data.toList=T c ws rest from hs];exact cnt_T c ws rest (fun w h=>(hw w h).1) hr
 have hN:=splitN_eq s c ((ws.length:Int)+1) ws rest hs rfl hw hsz;have z:(⟨#[c]⟩:ByteArray).size=1:=rfl;unfold Z1c.f Zm.f at hN;unfold Z16.f Zm.f Z2b.f;have e:((⟨#[c]⟩:ByteArray).toList==(⟨#[]⟩:ByteArray).toList)=false:=by rw[Zv,Zv];rfl
 rw[if_neg (by simp;omega),e,if_neg (by simp),if_neg (by simp;omega),sb] at hN;rw[if_neg (by decide),e,if_neg (by simp),if_pos (by decide),z,if_neg (by decide),if_pos (by decide),chkB (by decide),sb,hc,Ze (n:=((ws.length:Nat):Int)+1) (by omega) (by omega),sb];exact hN
end Go.Proofs.YtlkonkfkapdimaaGreatDoor.PvGR
namespace Go.Proofs.YtlkonkfkapdimaaGreatDoor.PvGR
open Go Go.Pv Go.Pv.GS Go.IntKind
theorem compare_int (a b:Int):Z1l.f a b=some (if a<b then -1 else if a>b then 1 else 0):=by
 unfold Z1l.f Z1q.f;by_cases h1:a<b
 ·simp[h1]
 ·by_cases h2:b<a
  ·simp[h1,h2]
  ·simp[h1,h2]
theorem num_add_l0 (l:List Int) (hl:l.length<4611686018427387904):∀ (suf pre:List Int) (acc i:Int),l=pre++suf→i=(pre.length:Int)→U64 acc→(∀ x∈suf,U64 x) →
  Z1e.l0 l acc i=some (if acc+suf.sum<18446744073709551616 then .inr (acc+suf.sum) else .inl (0,5)):=by
 intro suf
 induction suf with
 | nil =>
  intro pre acc i h1 hi ha hs;subst h1;rw[Z1e.l0,if_neg (by simp[hi])];simp[ha.2]
 | cons x suf ih =>
  intro pre acc i h1 hi ha hs;have hx:=hs x (by simp);have hs':∀ y∈suf,U64 y:=fun y hy=>hs y (by simp[hy])
  have hnn:0≤suf.sum:=Z3i (fun y hy=>(hs' y hy).1);rw[Z1e.l0,if_pos (by rw[h1];simp[hi];omega)];rw[Z1v h1 hi,sb,chkB ⟨ha.1,hx.1,by omega,by omega⟩];have hlen:(l.length:Int)=pre.length+(suf.length+1):=by rw[h1];simp
  by_cases hov:acc+x<18446744073709551616
  ·rw[if_neg (by simp;omega),Ze     (by omega) (by omega),show(acc+x+0) % 18446744073709551616=acc+x by omega]
   rw[ih (pre++[x]) (acc+x) (i+1) (by simp[h1]) (by simp;omega) ⟨by omega,hov⟩ hs'];rw[List.sum_cons,Int.add_assoc]
  ·rw[if_pos (by simp;omega),if_neg (by rw[List.sum_cons];omega)]
theorem num_add (l:List Int) (hl:l.length<4611686018427387904) (h:∀ x∈l,U64 x) :
  Z1e.f l=some (if l.sum<18446744073709551616 then(l.sum,0) else(0,5)):=by
 unfold Z1e.f;rw[num_add_l0 l hl l [] 0 0 rfl rfl (by omega) h,sb,Int.zero_add];by_cases h:l.sum<18446744073709551616
 ·rw[if_pos h,if_pos h]
 ·rw[if_neg h,if_neg h]
theorem num_add2 {a b:Int} (ha:U64 a) (hb:U64 b):Z1e.f [a,b]=some (if a+b<18446744073709551616 then(a+b,0) else(0,5)):=by
 rw[num_add [a,b] (by simp) (by simp;exact⟨ha,hb⟩)];simp
def tot:List Z2→Int→Int
 | [],_=>0
 | b::l,i=>(if b.f0=i then b.f1 else 0)+tot l i
abbrev Nn (l:List Z2):Prop:=∀ b∈l,0≤b.f1
theorem Z2u (a b:List Z2) (i:Int):tot (a++b) i=tot a i+tot b i:=by
 induction a with
 | nil=>simp[tot]
 | cons x a ih=>simp only[List.cons_append,tot,ih];omega
theorem tot_one (b:Z2) (i:Int):tot [b] i=if b.f0=i then b.f1 else 0:=by simp[tot]
theorem Z8a {l:List Z2} (h:Nn l) (i:Int):0≤tot l i:=by
 induction l with
 | nil=>simp[tot]
 | cons b l ih =>
  have:=h b (by simp);have:=ih (fun y hy=>h y (by simp[hy]));rw[tot];split<;>omega
theorem tot_zero {l:List Z2} {i:Int} (h:∀ b∈l,b.f0≠i):tot l i=0:=by
 induction l with
 | nil=>rfl
 | cons b l ih=>rw[tot,if_neg (h b (by simp)),ih (fun y hy=>h y (by simp[hy]))];rfl
theorem tot_perm {a b:List Z2} (h:a.Perm b) (i:Int):tot a i=tot b i:=by
 induction h with
 | nil=>rfl
 | cons x _ ih=>simp only[tot,ih]
 | swap x y l=>simp only[tot];omega
 | trans _ _ h1 h2=>exact h1.trans h2
structure Z4c (l:List Z2):Prop where
 up:l.Pairwise (fun a b=>a.f0<b.f0)
 pos:∀ b∈l,0<b.f1
theorem Z4c.nn {l:List Z2} (h:Z4c l):Nn l:=fun b hb=>Int.le_of_lt (h.pos b hb)
theorem Z4c.tail {x:Z2} {l:List Z2} (h:Z4c (x::l)):Z4c l:=⟨(List.pairwise_cons.1 h.up).2,fun b hb=>h.pos b (by simp[hb])⟩
theorem Z4c.tot_head {x:Z2} {l:List Z2} (h:Z4c (x::l)):tot (x::l) x.f0=x.f1:=by
 rw[tot,tot_zero (fun b hb=>by have:=(List.pairwise_cons.1 h.up).1 b hb;omega)];simp
theorem Z4c.tot_low {x:Z2} {l:List Z2} (h:Z4c (x::l)) {i:Int} (hi:i<x.f0):tot (x::l) i=0 :=
 tot_zero (fun b hb=>by
  rcases List.mem_cons.1 hb with rfl | hb
  ·omega
  ·have:=(List.pairwise_cons.1 h.up).1 b hb;omega)
theorem Z4c.tot_of {l:List Z2} (h:Z4c l) {b:Z2} (hb:b∈l):tot l b.f0=b.f1:=by
 induction l with
 | nil=>simp at hb
 | cons x l ih =>
  rcases List.mem_cons.1 hb with rfl | hb
  ·exact h.tot_head
  ·have:=(List.pairwise_cons.1 h.up).1 b hb
   rw[tot,if_neg (by omega),ih h.tail hb];omega
theorem Z6n:∀ {a b:List Z2},Z4c a→Z4c b→(∀ i,tot a i=tot b i)→a=b
 | [],[],_,_,_=>rfl
 | [],y::b,_,hb,h=>by
  have h1:=h y.f0;rw[hb.tot_head] at h1;have:=hb.pos y (by simp);simp[tot] at h1;omega
 | x::a,[],ha,_,h=>by
  have h1:=h x.f0;rw[ha.tot_head] at h1;have:=ha.pos x (by simp);simp[tot] at h1;omega
 | x::a,y::b,ha,hb,h=>by
  have hx:=ha.pos x (by simp);have hy:=hb.pos y (by simp);have e0:x.f0=y.f0:=by
   by_cases h1:x.f0<y.f0
   ·have:=h x.f0;rw[ha.tot_head,hb.tot_low h1] at this;omega
   ·by_cases h2:y.f0<x.f0
    ·have:=h y.f0;rw[hb.tot_head,ha.tot_low h2] at this;omega
    ·omega
  have e1:x.f1=y.f1:=by
   have:=h x.f0;rw[ha.tot_head,e0,hb.tot_head] at this;exact this
  have e:x=y:=by cases x;cases y;simp_all
  subst e;rw[Z6n ha.tail hb.tail (fun i=>by have:=h i;simp only[tot] at this;omega)]
def bLt (a b:Z2):Bool:=decide (a.f0<b.f0)
theorem bLt_swo:SWO bLt:=⟨fun a b h=>by simp[bLt] at *;omega,fun a b c h1 h2=>by simp[bLt] at *;omega⟩
theorem bCmp:Cmp Z0i.f bLt:=fun a b=>by
 refine⟨_,by unfold Z0i.f;rw[compare_int,sb],?_⟩;simp only[bLt];by_cases h1:a.f0<b.f0
 ·simp[h1]
 ·by_cases h2:b.f0<a.f0<;>simp[h1,h2]
theorem sort_inst:Zk.f=GS.SortStable.f Z0i.f:=by kernel_rfl
theorem clone_inst (l:List Z2) (h:l.length<1000000000):Z04.f l=some l:=by
 unfold Z04.f;rw[chkB (by simp;omega)]
theorem snoc_at {α:Type} (l:List α) (x:α) (h:l.length<1000000000000):at? (l++[x]) (i64.wrap (((l++[x]).length:Int)-1))=some x:=by
 rw[List.length_append,List.length_singleton,Ze (by omega) (by omega)];exact Z1v (pre:=l) (suf:=[]) rfl (by omega)
theorem snoc_set {α:Type} (l:List α) (x y:α) (h:l.length<1000000000000):(l++[x]).set (Int.toNat (i64.wrap (((l++[x]).length:Int)-1))) y=l++[y]:=by
 rw[List.length_append,List.length_singleton,Ze (by omega) (by omega),show(((l.length+1:Nat):Int)-1).toNat=l.length by omega];simp
structure TidyI (pre out:List Z2):Prop where
 canon:Z4c out
 seen:∀ o∈out,∃ p∈pre,p.f0=o.f0
 tots:∀ i,tot out i=tot pre i
 u64:∀ o∈out,U64 o.f1
 len:out.length≤pre.length
theorem tidy_l0 (l:List Z2) (hl:l.length<1000000000) (hU:∀ b∈l,U64 b.f1) (hs:l.Pairwise (fun a b=>a.f0≤b.f0)):∀ (suf pre out:List Z2) (i:Int),l=pre++suf→i=(pre.length:Int)→TidyI pre out →
  (∃ out',Z09.l0 l out i=some (.inr out')∧TidyI l out')∨(Z09.l0 l out i=some (.inl ([],5))∧∃ i,18446744073709551616≤tot l i):=by
 intro suf
 induction suf with
 | nil =>
  intro pre out i h1 hi hI;rw[List.append_nil] at h1;subst h1;rw[Z09.l0,if_neg (by simp[hi])];exact .inl ⟨out,rfl,hI⟩
 | cons b suf ih =>
  intro pre out i h1 hi hI;have hb:=hU b (by rw[h1];simp);have hlen:l.length=pre.length+(suf.length+1):=by rw[h1];simp
  have holen:out.length≤pre.length:=hI.len;have hle:∀ p∈pre,p.f0≤b.f0:=fun p hp=>by
   rw[h1] at hs;exact(List.pairwise_append.1 hs).2.2 p hp b (by simp)
  have e1:l=(pre++[b])++suf:=by simp[h1]
  have e2:i+1=((pre++[b]).length:Int):=by simp[hi]
  rw[Z09.l0,if_pos (by rw[h1];simp[hi];omega),Z1v h1 hi,sb,Ze (n:=i+1) (by omega) (by omega)];by_cases h0:b.f1=0
  ·rw[if_pos (by simpa using h0),sb]
   simp only[];exact ih (pre++[b]) out (i+1) e1 e2 ⟨hI.canon,fun o ho=>let ⟨p,hp,e⟩:=hI.seen o ho;⟨p,by simp[hp],e⟩,fun i=>by rw[hI.tots,Z2u,tot_one,h0];simp,hI.u64,by simp;omega⟩
  rw[if_neg (by simpa using h0)];have hnew:(∀ o∈out,o.f0<b.f0)→TidyI (pre++[b]) (out++[b]):=fun hlt =>
   ⟨⟨List.pairwise_append.2 ⟨hI.canon.up, List.pairwise_singleton _ _, fun o ho y hy => by simp at hy; subst hy; exact hlt o ho⟩, fun o ho => by
     rcases List.mem_append.1 ho with ho | ho
     ·exact hI.canon.pos o ho
     ·simp at ho;subst ho;omega⟩,
    fun o ho=>by
     rcases List.mem_append.1 ho with ho | ho
     ·obtain⟨p,hp,e⟩:=hI.seen o ho;exact⟨p,by simp[hp],e⟩
     ·simp at ho;subst ho;exact⟨o,by simp,rfl⟩,
    fun i=>by rw[Z2u,Z2u,hI.tots],
    fun o ho=>by
     rcases List.mem_append.1 ho with ho | ho
     ·exact hI.u64 o ho
     ·simp at ho;subst ho;exact hb,
    by simp;omega⟩
  have happ:∀ (hlt:∀ o∈out,o.f0<b.f0),(∃ out',Z09.l0 l (out++[b]) (i+1)=some (.inr out')∧TidyI l out')∨(Z09.l0 l (out++[b]) (i+1)=some (.inl ([],5))∧∃ i,18446744073709551616≤tot l i):=fun hlt =>
   ih (pre++[b]) (out++[b]) (i+1) e1 e2 (hnew hlt)
  have hroom:(out.length+[b].length)*16≤140737488355328:=by simp;omega
  rcases List.eq_nil_or_concat out with rfl | ⟨o',o,rfl⟩
  ·rw[if_neg (by simp),sb,if_neg (by simp),chkB hroom,sb]
   simp only[];exact happ (by simp)
  simp only[List.concat_eq_append] at *;have ho':o'.length<1000000000000:=by simp at holen;omega
  rw[if_pos (by simp),snoc_at _ _ ho',sb,sb];obtain⟨p,hp,hpo⟩:=hI.seen o (by simp);have hob:o.f0≤b.f0:=hpo ▸ hle p hp;have hup:=List.pairwise_append.1 hI.canon.up;by_cases he:o.f0=b.f0
  ·rw[if_pos (by simpa using he),sb,num_add2 (hI.u64 o (by simp)) hb,sb]
   have ho1:=hI.u64 o (by simp);by_cases hov:o.f1+b.f1<18446744073709551616
   ·rw[if_pos hov,if_neg (by simp),sb,snoc_set _ _ _ ho']
    simp only[sb];refine ih (pre++[b]) (o'++[⟨o.f0,o.f1+b.f1⟩]) (i+1) e1 e2 ⟨⟨List.pairwise_append.2 ⟨hup.1,List.pairwise_singleton _ _,fun x hx y hy=>by simp at hy;subst hy;exact hup.2.2 x hx o (by simp)⟩,fun x hx => ?_⟩,fun x hx => ?_,fun i => ?_,fun x hx => ?_,by simp at holen ⊢;omega⟩
    ·rcases List.mem_append.1 hx with hx | hx
     ·exact hI.canon.pos x (by simp[hx])
     ·simp at hx;subst hx;have:=hI.canon.pos o (by simp);simp;omega
    ·rcases List.mem_append.1 hx with hx | hx
     ·obtain⟨p,hp,e⟩:=hI.seen x (by simp[hx]);exact⟨p,by simp[hp],e⟩
     ·simp at hx;subst hx;exact⟨b,by simp,he.symm⟩
    ·have:=hI.tots i
     rw[Z2u,tot_one] at this ⊢;rw[Z2u,tot_one,← this];simp only;rw[← he];split<;>omega
    ·rcases List.mem_append.1 hx with hx | hx
     ·exact hI.u64 x (by simp[hx])
     ·simp at hx;subst hx;exact⟨by simp;omega,hov⟩
   ·rw[if_neg hov,if_pos (by simp),sb]
    simp only[];refine .inr ⟨rfl,b.f0,?_⟩;have h3:=hI.tots b.f0;rw[Z2u,tot_one,if_pos he] at h3;have h4:=Z8a (l:=o') (fun x hx=>hI.canon.nn x (by simp[hx])) b.f0;have h5:=Z8a (l:=suf) (fun x hx=>(hU x (by rw[h1];simp[hx])).1) b.f0;rw[h1,Z2u,tot,if_pos rfl];omega
  ·rw[if_neg (by simpa using he),chkB hroom,sb]
   simp only[];refine happ (fun x hx => ?_);rcases List.mem_append.1 hx with hx | hx
   ·have:=hup.2.2 x hx o (by simp);omega
   ·simp at hx;subst hx;omega
theorem tidy_spec (l:List Z2) (hl:l.length<100000000) (hU:∀ b∈l,U64 b.f1) :
  (∃ out,Z09.f l=some (out,0)∧Z4c out∧(∀ i,tot out i=tot l i)∧(∀ b∈out,U64 b.f1)∧(∀ b∈out,∃ p∈l,p.f0=b.f0)∧out.length≤l.length) ∨
  (Z09.f l=some ([],5)∧∃ i,18446744073709551616≤tot l i):=by
 unfold Z09.f;rw[clone_inst l (by omega),sb,sort_inst,GS.sorts bCmp bLt_swo l (by omega),sb];have hp:=S_perm (lt:=bLt) l;have hs:(GS.S bLt l).Pairwise (fun a b=>a.f0≤b.f0):=(Z50 bLt_swo l).imp (fun {a b} h=>by simp[bLt] at h;exact h);rcases tidy_l0 (GS.S bLt l) (by rw[Z39];omega) (fun b hb=>hU b (hp.mem_iff.1 hb)) hs (GS.S bLt l) [] [] 0 rfl rfl ⟨⟨List.Pairwise.nil,by simp⟩,by simp,fun _=>rfl,by simp,by simp⟩ with ⟨out,e,h⟩ | ⟨e,i,h⟩
 ·rw[e]
  exact .inl ⟨out,rfl,h.canon,fun i=>(h.tots i).trans (tot_perm hp i),h.u64,fun b hb=>let ⟨p,hp',e⟩:=h.seen b hb;⟨p,hp.mem_iff.1 hp',e⟩,by have:=h.len;rw[Z39] at this;exact this⟩
 ·rw[e]
  exact .inr ⟨rfl,i,by rw[← tot_perm hp i];exact h⟩
theorem tidy_fits {l:List Z2} {out:List Z2} (hc:Z4c out) (ht:∀ i,tot out i=tot l i) (hu:∀ b∈out,U64 b.f1) (i:Int):tot l i<18446744073709551616:=by
 rw[← ht];by_cases h:∃ b∈out,b.f0=i
 ·obtain⟨b,hb,rfl⟩:=h
  rw[hc.tot_of hb];exact(hu b hb).2
 ·rw[tot_zero (fun b hb e=>h ⟨b,hb,e⟩)];omega
theorem tidy_id (l:List Z2) (hl:l.length<100000000) (hU:∀ b∈l,U64 b.f1) (hc:Z4c l):Z09.f l=some (l,0):=by
 rcases tidy_spec l hl hU with ⟨o,e,h1,h2,h3,_⟩ | ⟨e,i,h1⟩
 ·rw[e,Z6n h1 hc h2]
 ·have:=tidy_fits hc (fun _=>rfl) hU i;omega
def cnt (l:List Z2):Int:=(l.map (·.f1)).sum
theorem Z68 {l:List Z2} (h:Nn l):0≤cnt l:=Z3i (fun x hx=>by
 obtain⟨b,hb,rfl⟩:=List.mem_map.1 hx;exact h b hb)
theorem cnt_cons (b:Z2) (l:List Z2):cnt (b::l)=b.f1+cnt l:=by simp[cnt]
theorem total_l1 (a0:List (List Z2)) (x769:Int) (l:List Z2) (hl:l.length<1000000000):∀ (suf pre:List Z2) (acc i:Int),l=pre++suf→i=(pre.length:Int)→U64 acc→(∀ b∈suf,U64 b.f1) →
  Zt.l1 a0 l x769 acc i=some (if acc+cnt suf<18446744073709551616 then .inr (acc+cnt suf) else .inl (0,5)):=by
 intro suf
 induction suf with
 | nil =>
  intro pre acc i h1 hi ha hs;subst h1;rw[Zt.l1,if_neg (by simp[hi])];simp[cnt,ha.2]
 | cons x suf ih =>
  intro pre acc i h1 hi ha hs;have hx:=hs x (by simp);have hs':∀ y∈suf,U64 y.f1:=fun y hy=>hs y (by simp[hy])
  have hnn:0≤cnt suf:=Z68 (fun y hy=>(hs' y hy).1);have hlen:(l.length:Int)=pre.length+(suf.length+1):=by rw[h1];simp
  rw[Zt.l1,if_pos (by simp;omega),Z1v h1 hi,sb,num_add2 ha hx,sb,Ze (by omega) (by omega),cnt_cons];by_cases hov:acc+x.f1<18446744073709551616
  ·rw[if_pos hov,if_neg (by simp),ih (pre++[x]) (acc+x.f1) (i+1) (by simp[h1]) (by simp;omega) ⟨by omega,hov⟩ hs',Int.add_assoc]
  ·rw[if_neg hov,if_pos (by simp),if_neg (by omega)]
theorem total_l0 (a0:List (List Z2)) (ha0:a0.length<1000000000):∀ (suf pre:List (List Z2)) (acc i:Int),a0=pre++suf→i=(pre.length:Int)→U64 acc→(∀ l∈suf,l.length<1000000000∧∀ b∈l,U64 b.f1) →
  Zt.l0 a0 acc i=some (if acc+(suf.map cnt).sum<18446744073709551616 then .inr (acc+(suf.map cnt).sum) else .inl (0,5)):=by
 intro suf
 induction suf with
 | nil =>
  intro pre acc i h1 hi ha hs;subst h1;rw[Zt.l0,if_neg (by simp[hi])];simp[ha.2]
 | cons x suf ih =>
  intro pre acc i h1 hi ha hs;have hx:=hs x (by simp);have hs':∀ l∈suf,l.length<1000000000∧∀ b∈l,U64 b.f1:=fun y hy=>hs y (by simp[hy])
  have hx0:0≤cnt x:=Z68 (fun y hy=>(hx.2 y hy).1);have hnn:0≤(suf.map cnt).sum:=Z3i (fun y hy=>by
   obtain⟨l,hl,rfl⟩:=List.mem_map.1 hy;exact Z68 (fun y hy=>((hs' l hl).2 y hy).1))
  have hlen:(a0.length:Int)=pre.length+(suf.length+1):=by rw[h1];simp
  rw[Zt.l0,if_pos (by simp;omega),Z1v h1 hi,sb,total_l1 a0 i x hx.1 x [] acc 0 rfl rfl ha hx.2,sb,Ze (by omega) (by omega),List.map_cons,List.sum_cons];by_cases hov:acc+cnt x<18446744073709551616
  ·rw[if_pos hov]
   simp only[];rw[ih (pre++[x]) (acc+cnt x) (i+1) (by simp[h1]) (by simp;omega) ⟨by omega,hov⟩ hs',Int.add_assoc]
  ·rw[if_neg hov,if_neg (by omega)]
theorem total3 (p n:List Z2) (z:Int) (hp:p.length<1000000000) (hn:n.length<1000000000) (hpU:∀ b∈p,U64 b.f1) (hnU:∀ b∈n,U64 b.f1) (hz:U64 z) :
  Zt.f [p,n,[(⟨0,z⟩:Z2)]]=some (if cnt p+cnt n+z<18446744073709551616 then(cnt p+cnt n+z,0) else(0,5)):=by
 unfold Zt.f;rw[total_l0 [p,n,[(⟨0,z⟩:Z2)]] (by simp) [p,n,[(⟨0,z⟩:Z2)]] [] 0 0 rfl rfl (by omega) (by
  intro l hl;simp only[List.mem_cons,List.not_mem_nil,or_false] at hl;rcases hl with rfl | rfl | rfl
  ·exact⟨hp,hpU⟩
  ·exact⟨hn,hnU⟩
  ·exact⟨by simp,by simp;exact hz⟩),sb]
 have e:0+(([p,n,[(⟨0,z⟩:Z2)]]:List (List Z2)).map cnt).sum=cnt p+cnt n+z:=by simp[cnt];omega
 rw[e];by_cases h:cnt p+cnt n+z<18446744073709551616
 ·rw[if_pos h,if_pos h]
 ·rw[if_neg h,if_neg h]
theorem right_eq (s:Int):Z07.f s=some (decide (-4≤s)&&decide (s≤8)):=by
 unfold Z07.f;rw[ifand];rfl
def Z21 (s:Int):Prop:=-4≤s∧s≤8
instance (s:Int):Decidable (Z21 s):=inferInstanceAs (Decidable (_∧_))
theorem Z7d {s:Int} (h:Z21 s):Z07.f s=some true:=by rw[right_eq];simp[h.1,h.2]
theorem right_F {s:Int} (h:¬ Z21 s):Z07.f s=some false:=by rw[right_eq];simp[Z21] at h ⊢;omega
def stp (s:Int):Int:=2 ^ (8-s).toNat
theorem Z5x (s:Int):0<stp s:=by unfold stp;exact Int.pow_pos (by omega)
theorem stp_le {s:Int} (h:Z21 s):stp s≤4096:=by
 have h1:=h.1;have h2:=h.2;have:s = -4∨s = -3∨s = -2∨s = -1∨s=0∨s=1∨s=2∨s=3∨s=4∨s=5∨s=6∨s=7∨s=8:=by omega
 rcases this with rfl | rfl | rfl | rfl | rfl | rfl | rfl | rfl | rfl | rfl | rfl | rfl | rfl<;>decide
theorem shift_eq {s:Int} (h:Z21 s):min (Int.toNat (u64.wrap (i64.wrap ((8:Int)-s)))) 64=(8-s).toNat:=by
 have h1:=h.1;have h2:=h.2;rw[Ze (by omega) (by omega),wrapU (by omega) (by omega)];omega
theorem most_T {s:Int} (h:Z21 s):Z23.f s=some (262144 / stp s):=by
 unfold Z23.f Z1u.f;rw[Z7d h,sb,if_neg (by simp),sb,chkB (u64_wrap _).1,shift_eq h,Int.fdiv_eq_ediv_of_nonneg _ (by exact Int.le_of_lt (Z5x s))];rfl
theorem units_T {s i:Int} (h:Z21 s) (hi : -1000000000000<i∧i<1000000000000):Z2i.f s i=some (i*stp s):=by
 unfold Z2i.f Z1u.f;rw[Z7d h,sb,if_neg (by simp),sb,chkB (u64_wrap _).1,shift_eq h];have h1:=Z5x s;have h2:=stp_le h;have h3:i*stp s≤1000000000000*4096:=by
  by_cases h0:0≤i
  ·exact Int.mul_le_mul (by omega) h2 (by omega) (by omega)
  ·have:i*stp s≤0:=Int.mul_nonpos_of_nonpos_of_nonneg (by omega) (by omega);omega
 have h4 : -(1000000000000*4096)≤i*stp s:=by
  by_cases h0:0≤i
  ·have:0≤i*stp s:=Int.mul_nonneg h0 (by omega);omega
  ·have : -i*stp s≤1000000000000*4096:=Int.mul_le_mul (by omega) h2 (by omega) (by omega)
   rw[Int.neg_mul] at this;omega
 show some (i64.wrap (i*stp s))=_;rw[Ze (by omega) (by omega)]
theorem Z7v (h:Zi):Zu.l0 h 0=((Zf.f h h.f6)>>=fun t=>if(t != (0:Int))=true then some (.inl t) else(Zf.f h h.f7)>>=fun t=>if(t != (0:Int))=true then some (.inl t) else some (.inr ())):=by
 have w1:i64.wrap (0+1)=1:=by decide
 have w2:i64.wrap (1+1)=2:=by decide
 rw[Zu.l0,if_pos (by decide),chkB (by omega),if_pos (by decide),sb,w1];congr 1;funext t;split
 ·rfl
 ·rw[          Zu.l0,if_pos (by decide),chkB (by omega),if_neg (by decide),sb,w2]
  congr 1;funext t;split
  ·rfl
  ·rw[Zu.l0,if_neg (by decide)]
structure Fits (h:Zi):Prop where
 kind:I64 h.f0
 schema:I64 h.f1
 zeroAt:I64 h.f2
 zero:U64 h.f3
 count:U64 h.f4
 sum:I64 h.f5
 pos:∀ b∈h.f6,I64 b.f0∧U64 b.f1
 neg:∀ b∈h.f7,I64 b.f0∧U64 b.f1
theorem fits_of {h:Zi} (r:RHist h):Fits h:=⟨r.r0,r.r1,r.r2,r.r3,r.r4,r.r5,fun b hb=>let q:=r.r6.2 b hb;⟨q.r0,q.r1⟩,fun b hb=>let q:=r.r7.2 b hb;⟨q.r0,q.r1⟩⟩
theorem Z8m (l:List Z2) (hl:l.length<1000000000):Zc.f l l=some true:=by
 unfold Zc.f;rw[if_neg (by simp)];have:∀ (suf pre:List Z2) (i:Int),l=pre++suf→i=(pre.length:Int)→Zc.l0 l l i=some (.inr ()):=by
  intro suf
  induction suf with
  | nil=>intro pre i h1 hi;subst h1;rw[Zc.l0,if_neg (by simp[hi])]
  | cons x suf ih =>
   intro pre i h1 hi;have hlen:(l.length:Int)=pre.length+(suf.length+1):=by rw[h1];simp
   rw[Zc.l0,if_pos (by simp;omega),Z1v h1 hi,sb,sb,if_neg (by simp),Ze (by omega) (by omega)];exact ih (pre++[x]) (i+1) (by simp[h1]) (by simp;omega)
 rw[this l [] 0 rfl rfl];rfl
theorem stp_dvd {s:Int} (h:Z21 s):262144 / stp s*stp s=262144:=by
 have h1:=h.1;have h2:=h.2;have:s = -4∨s = -3∨s = -2∨s = -1∨s=0∨s=1∨s=2∨s=3∨s=4∨s=5∨s=6∨s=7∨s=8:=by omega
 rcases this with rfl | rfl | rfl | rfl | rfl | rfl | rfl | rfl | rfl | rfl | rfl | rfl | rfl<;>decide
def InS (s i:Int):Prop:=-262144<i*stp s∧i*stp s≤262144
instance (s i:Int):Decidable (InS s i):=inferInstanceAs (Decidable (_∧_))
theorem inS_iff {s i:Int} (h:Z21 s):InS s i ↔ -(262144 / stp s)+1≤i∧i≤262144 / stp s:=by
 have hp:=Z5x s;have hd:=stp_dvd h;unfold InS;generalize 262144 / stp s=q at *;generalize stp s=st at *;constructor
 ·rintro⟨h1,h2⟩
  constructor
  ·have : -q*st<i*st:=by rw[Int.neg_mul];omega
   have:=Int.lt_of_mul_lt_mul_right this (Int.le_of_lt hp);omega
  ·have:i*st≤q*st:=by omega
   exact Int.le_of_mul_le_mul_right this hp
 ·rintro⟨h1,h2⟩
  constructor
  ·have:=Int.mul_lt_mul_of_pos_right (show -q<i by omega) hp
   rw[Int.neg_mul] at this;omega
  ·have:=Int.mul_le_mul_of_nonneg_right h2 (Int.le_of_lt hp);omega
theorem Z4k {s i:Int} (hi:InS s i) : -262144<i∧i≤262144:=by
 have hp:=Z5x s;obtain⟨h1,h2⟩:=hi;constructor
 ·by_cases h:i ≤ -262144
  ·have:=Int.mul_le_mul_of_nonneg_right h (Int.le_of_lt hp)
   have h3 : -262144*stp s ≤ -262144*1:=by
    have:=Int.mul_le_mul_of_nonneg_left (show 1≤stp s by omega) (show(0:Int)≤262144 by omega);omega
   omega
  ·omega
 ·by_cases h:262144<i
  ·have:=Int.mul_le_mul_of_nonneg_right (show 262145≤i by omega) (Int.le_of_lt hp)
   have h3:=Int.mul_le_mul_of_nonneg_left (show 1≤stp s by omega) (show(0:Int)≤262145 by omega);omega
  ·omega
theorem in_T {s i:Int} (h:Z21 s):Z3g.f s i=some (decide (InS s i)):=by
 have hp:=Z5x s;have hq:0≤262144 / stp s∧262144 / stp s≤262144:=⟨Int.ediv_nonneg (by omega) (by omega),Int.ediv_le_self _ (by omega)⟩
 unfold Z3g.f Z2j.f;rw[Z7d h,most_T h];simp only[sb,if_pos];rw[Ze (n:=0-_) (by omega) (by omega),Ze (by omega) (by omega),ifand,sb];congr 1;rw[← Bool.decide_and,decide_eq_decide,inS_iff h];constructor<;>intro h<;>constructor<;>omega
theorem low_T {s i:Int} (h:Z21 s) (hi:InS s i):Z30.f s i=some ((i-1)*stp s):=by
 have:=Z4k hi;unfold Z30.f;rw[Ze (by omega) (by omega),units_T h (by omega)];rfl
theorem Z5g (s:Int):Z0y.f s=some (decide (Z21 s)):=by
 unfold Z0y.f;rw[ifand,← Bool.decide_and];rfl
theorem ref_step_l0 (s:Int):∀ (n:Nat) (x i:Int),i≤8→8-i=(n:Int) → -4≤i→0≤x→x*2 ^ n≤4096→Z1k.l0 x i=some (x*2 ^ n):=by
 intro n
 induction n with
 | zero=>intro x i h1 h2 h3 h4 h5;rw[Z1k.l0,if_neg (by simp;omega)];simp
 | succ n ih =>
  intro x i h1 h2 h3 h4 h5;have e:x*2 ^ (n+1)=x*2*2 ^ n:=by rw[Int.pow_succ,Int.mul_assoc,Int.mul_comm 2]
  have hp:(0:Int)<2 ^ n:=Int.pow_pos (by omega);have hle:x*2≤4096:=by
   have:=Int.mul_le_mul_of_nonneg_left (show(1:Int)≤2 ^ n by omega) (show 0≤x*2 by omega);omega
  rw[Z1k.l0,if_pos (by simp;omega),Ze (n:=x*2) (by omega) (by omega),Ze (n:=i+1) (by omega) (by omega),ih (x*2) (i+1) (by omega) (by omega) (by omega) (by omega) (by omega),e]
theorem ref_step {s:Int} (h:Z21 s):Z1k.f s=some (stp s):=by
 unfold Z1k.f;have h1:=h.1;have h2:=h.2;rw[ref_step_l0 s (8-s).toNat 1 s h2 (by omega) h1 (by omega) (by rw[Int.one_mul];exact stp_le h)];simp[stp]
theorem Z7f {s i:Int} (h:Z21 s) (hi : -1000000000000<i∧i<1000000000000):Z1o.f s i=some (i*stp s):=by
 unfold Z1o.f;rw[Z5g,sb,if_neg (by simp[h]),ref_step h,sb];have h1:=Z5x s;have h2:=stp_le h;have h3:i*stp s≤1000000000000*4096:=by
  by_cases h0:0≤i
  ·exact Int.mul_le_mul (by omega) h2 (by omega) (by omega)
  ·have:i*stp s≤0:=Int.mul_nonpos_of_nonpos_of_nonneg (by omega) (by omega);omega
 have h4 : -(1000000000000*4096)≤i*stp s:=by
  by_cases h0:0≤i
  ·have:0≤i*stp s:=Int.mul_nonneg h0 (by omega);omega
  ·have : -i*stp s≤1000000000000*4096:=Int.mul_le_mul (by omega) h2 (by omega) (by omega)
   rw[Int.neg_mul] at this;omega
 rw[Ze (by omega) (by omega)]
theorem ref_in {s i:Int} (h:Z21 s) (hi:I64 i):Z4v.f s i=some (decide (InS s i)):=by
 unfold Z4v.f;rw[Z5g,sb,if_pos (by simp[h])];by_cases h1:i > -262144
 ·rw[if_pos (by simpa using h1)]
  by_cases h2:i≤262144
  ·rw[if_pos (by simpa using h2),Z7f       h (by omega),sb]
   by_cases h3:i*stp s > -262144
   ·rw[if_pos (by simpa using h3),sb,sb]
    congr 1;rw[decide_eq_decide];exact⟨fun h=>⟨h3,h⟩,fun h=>h.2⟩
   ·rw[if_neg (by simpa using h3),sb]
    have:¬ InS s i:=fun h=>h3 h.1;simp[this]
  ·rw[if_neg (by simpa using h2),sb]
   have:¬ InS s i:=fun h=>by have:=Z4k h;omega
   simp[this]
 ·rw[if_neg (by simpa using h1),sb]
  have:¬ InS s i:=fun h=>by have:=Z4k h;omega
  simp[this]
structure BOk (s z:Int) (b:Z2):Prop where
 ins:InS s b.f0
 pos:0<b.f1
 low:z≤(b.f0-1)*stp s
def Up:Option Int→List Z2→Prop
 | _,[]=>True
 | p,b::l=>(∀ q,p=some q→q<b.f0)∧Up (some b.f0) l
theorem up_iff:∀ (l:List Z2) (p:Option Int),Up p l↔(∀ q,p=some q→∀ b∈l,q<b.f0)∧l.Pairwise (fun a b=>a.f0<b.f0)
 | [],p=>by simp[Up]
 | x::l,p=>by
  rw[Up,up_iff l,List.pairwise_cons];constructor
  ·rintro⟨h1,h2,h3⟩
   refine⟨fun q hq b hb => ?_,fun b hb=>h2 _ rfl b hb,h3⟩;have h4:=h1 q hq;rcases List.mem_cons.1 hb with rfl | hb
   ·exact h4
   ·have:=h2 _ rfl b hb;omega
  ·rintro⟨h1,h2,h3⟩
   exact⟨fun q hq=>h1 q hq x (by simp),fun q hq b hb=>by cases hq;exact h2 b hb,h3⟩
structure Side (s z:Int) (l:List Z2):Prop where
 len:l.length≤512
 ok:∀ b∈l,BOk s z b
 up:l.Pairwise (fun a b=>a.f0<b.f0)
theorem Side.canon {s z:Int} {l:List Z2} (h:Side s z l):Z4c l:=⟨h.up,fun b hb=>(h.ok b hb).pos⟩
structure Valid (h:Zi):Prop where
 kind:h.f0=0∨h.f0=1
 schema:Z21 h.f1
 zero:h.f2 = -524288∨(-262144<h.f2∧h.f2≤262144)
 pos:Side h.f1 h.f2 h.f6
 neg:Side h.f1 h.f2 h.f7
 total:cnt h.f6+cnt h.f7+h.f3<18446744073709551616
 count:h.f4=cnt h.f6+cnt h.f7+h.f3
theorem last_pre {l pre:List Z2} {x:Z2} {suf:List Z2} {i:Int} (h1:l=pre++x::suf) (hi:i=(pre.length:Int)) (h0:0<i) (hl:l.length<1000000000) :
  ∃ q,(pre.getLast?).map (·.f0)=some q∧∃ y,at? l (i64.wrap (i-1))=some y∧y.f0=q:=by
 rcases List.eq_nil_or_concat pre with rfl | ⟨P,p,rfl⟩
 ·simp at hi;omega
 ·simp only[List.concat_eq_append] at *
  have hlen:l.length=P.length+1+(suf.length+1):=by rw[h1];simp;omega
  have hi2:i=(P.length:Int)+1:=by rw[hi];simp
  rw[Ze (by omega) (by omega)];exact⟨p.f0,by simp,p,Z1v (pre:=P) (suf:=x::suf) (by simp[h1]) (by omega),rfl⟩
theorem no_pre {pre:List Z2} {i:Int} (hi:i=(pre.length:Int)) (h0:¬ 0<i):(pre.getLast?).map (·.f0)=none:=by
 have:pre=[]:=List.length_eq_zero_iff.1 (by omega);subst this;rfl
theorem buckets_l0 (h:Zi) (l:List Z2) (hs:Z21 h.f1) (hl:l.length<1000000000):∀ (suf pre:List Z2) (i:Int),l=pre++suf→i=(pre.length:Int)→(∀ b∈suf,U64 b.f1) →
  ∃ r,Zf.l0 h l i=some r∧(∀ c,r = .inl c→c≠0)∧(r = .inr ()↔(∀ b∈suf,BOk h.f1 h.f2 b)∧Up ((pre.getLast?).map (·.f0)) suf):=by
 intro suf
 induction suf with
 | nil =>
  intro pre i h1 hi _;subst h1;rw[Zf.l0,if_neg (by simp[hi])];exact⟨_,rfl,by simp,by simp[Up]⟩
 | cons x suf ih =>
  intro pre i h1 hi hU;have hx:=hU x (by simp);have hlen:(l.length:Int)=pre.length+(suf.length+1):=by rw[h1];simp
  rw[Zf.l0,if_pos (by simp;omega),Z1v h1 hi,sb,in_T hs,sb];by_cases c1:InS h.f1 x.f0
  case neg =>
   rw[if_pos (by simp[c1])];exact⟨_,rfl,by simp,by simp;intro h;exact absurd h.ins c1⟩
  rw[if_neg (by simp[c1])];have hprev:∃ c:Bool,((if(decide (i>(0:Int)))=true then((at? l (i64.wrap (i-(1:Int))))>>=fun b922=>some (decide (b922.f0≥x.f0))) else(some false)):Option (Bool))=some c∧(c=false↔∀ q,(pre.getLast?).map (·.f0)=some q→q<x.f0):=by
   by_cases h0:0<i
   ·obtain⟨q,e1,y,e2,e3⟩:=last_pre h1 hi h0 hl
    rw[if_pos (by simpa using h0),e2,sb];exact⟨_,rfl,by rw[e1,e3];simp⟩
   ·rw[if_neg (by simpa using h0)]
    exact⟨_,rfl,by rw[no_pre hi h0];simp⟩
  obtain⟨c,ec,hc⟩:=hprev;rw[ec,sb,low_T hs c1];cases c with
  | true =>
   rw[if_pos rfl];refine⟨_,rfl,by simp,by simp;intro _ _ h2;exact absurd (hc.2 h2.1) (by simp)⟩
  | false =>
   rw[if_neg (by simp)];by_cases c2:x.f1=0
   ·rw[if_pos (by simpa using c2)]
    exact⟨_,rfl,by simp,by simp;intro h;have:=h.pos;omega⟩
   rw[if_neg (by simpa using c2),sb];by_cases c3:(x.f0-1)*stp h.f1<h.f2
   ·rw[if_pos (by simpa using c3)]
    exact⟨_,rfl,by simp,by simp;intro h;have:=h.low;omega⟩
   rw[if_neg (by simpa using c3),Ze (n:=i+1) (by omega) (by omega)];obtain⟨r,e,e1,e2⟩:=ih (pre++[x]) (i+1) (by simp[h1]) (by simp;omega) (fun b hb=>hU b (by simp[hb]));refine⟨r,e,e1,?_⟩;rw[e2];simp only[List.getLast?_append,List.getLast?_singleton,Option.some_or,Option.map_some,Up,List.forall_mem_cons];have hb:BOk h.f1 h.f2 x:=⟨c1,by omega,by omega⟩
   constructor
   ·rintro⟨a,b⟩;exact⟨⟨hb,a⟩,hc.1 rfl,b⟩
   ·rintro⟨⟨_,a⟩,_,b⟩;exact⟨a,b⟩
theorem Z7x (h:Zi) (l:List Z2) (hs:Z21 h.f1) (hl:l.length<1000000000) (hU:∀ b∈l,U64 b.f1):∃ r,Zf.f h l=some r∧(r=0↔Side h.f1 h.f2 l):=by
 unfold Zf.f;by_cases h0:l.length>512
 ·rw[if_pos (by simp;omega)]
  exact⟨_,rfl,by simp;intro h;have:=h.len;omega⟩
 ·rw[if_neg (by simp;omega)]
  obtain⟨r,e,e1,e2⟩:=buckets_l0 h l hs hl l [] 0 rfl rfl hU;rw[e,sb];cases r with
  | inl c =>
   refine⟨c,rfl,?_⟩;constructor
   ·intro h;exact absurd h (e1 c rfl)
   ·intro h
    exact absurd (e2.2 ⟨h.ok,(up_iff l _).2 ⟨by simp,h.up⟩⟩) (by simp)
  | inr u =>
   refine⟨0,rfl,?_⟩;obtain⟨h1,h2⟩:=e2.1 rfl;exact⟨fun _=>⟨by omega,h1,((up_iff l _).1 h2).2⟩,fun _=>rfl⟩
theorem check_iff (h:Zi) (hf:Fits h) (hp:h.f6.length<1000000000) (hn:h.f7.length<1000000000):∃ r,Zu.f h=some r∧(r=0↔Valid h):=by
 unfold Zu.f;have hk:((if(h.f0 != (0:Int))=true then(some (h.f0 != (1:Int))) else(some false)):Option (Bool))=some (!decide (h.f0=0∨h.f0=1)):=by
  by_cases h1:h.f0=0
  ·simp[h1]
  ·by_cases h2:h.f0=1<;>simp[h1,h2]
 rw[hk,sb];by_cases c1:h.f0=0∨h.f0=1
 case neg=>rw[if_pos (by simpa using c1)];exact⟨_,rfl,by simp;intro h;exact c1 h.kind⟩
 rw[if_neg (by rw[decide_eq_true c1];decide)];by_cases c2:Z21 h.f1
 case neg=>rw[right_F c2,sb,if_pos (by simp)];exact⟨_,rfl,by simp;intro h;exact c2 h.schema⟩
 rw[Z7d c2,sb,if_neg (by simp)];have hz:((if(h.f2 != (-524288))=true then(if(decide (h.f2≤(-262144)))=true then(some true) else(some (decide (h.f2>(262144:Int))))) else(some false)):Option (Bool))=some (!decide (h.f2 = -524288∨(-262144<h.f2∧h.f2≤262144))):=by
  by_cases h1:h.f2 = -524288
  ·simp[h1]
  ·by_cases h2:h.f2 ≤ -262144
   ·simp[h1,h2]
   ·have h4 : -262144<h.f2:=by omega
    by_cases h3:h.f2≤262144
    ·simp[h1,h2,h3,h4]
    ·simp[h1,h2,h3,h4];omega
 rw[hz,sb];by_cases c3:h.f2 = -524288∨(-262144<h.f2∧h.f2≤262144)
 case neg=>rw[if_pos (by simp[c3])];exact⟨_,rfl,by simp;intro h;exact c3 h.zero⟩
 rw[if_neg (by simp[c3])];obtain⟨r1,e1,i1⟩:=Z7x h h.f6 c2 hp (fun b hb=>(hf.pos b hb).2);obtain⟨r2,e2,i2⟩:=Z7x h h.f7 c2 hn (fun b hb=>(hf.neg b hb).2);rw[Z7v,e1,e2,sb,sb];by_cases d1:r1=0
 case neg=>rw[if_pos (by simpa using d1),sb];exact⟨_,rfl,⟨fun h=>absurd h d1,fun h=>absurd (i1.2 h.pos) d1⟩⟩
 rw[if_neg (by simpa using d1)];by_cases d2:r2=0
 case neg=>rw[if_pos (by simpa using d2),sb];exact⟨_,rfl,⟨fun h=>absurd h d2,fun h=>absurd (i2.2 h.neg) d2⟩⟩
 rw[if_neg (by simpa using d2),sb];simp only[];rw[total3 _ _ _ hp hn (fun b hb=>(hf.pos b hb).2) (fun b hb=>(hf.neg b hb).2) hf.zero,sb];by_cases c4:cnt h.f6+cnt h.f7+h.f3<18446744073709551616
 case neg=>rw[if_neg c4,if_pos (by simp)];exact⟨_,rfl,by simp;intro h;exact c4 h.total⟩
 rw[if_pos c4,if_neg (by simp)];by_cases c5:cnt h.f6+cnt h.f7+h.f3=h.f4
 ·rw[if_neg (by simpa using c5)]
  exact⟨0,rfl,fun _=>⟨c1,c2,c3,i1.1 d1,i2.1 d2,c4,c5.symm⟩,fun _=>rfl⟩
 ·rw[if_pos (by simpa using c5)]
  exact⟨_,rfl,by simp;intro h;exact c5 h.count.symm⟩
theorem check_T (h:Zi) (hf:Fits h) (hv:Valid h):Zu.f h=some 0:=by
 have hl:=hv.pos.len;have hl2:=hv.neg.len;obtain⟨r,e,i⟩:=check_iff h hf (by omega) (by omega);rw[e,i.2 hv]
theorem ref_add_l0 (l:List Int) (hl:l.length<4611686018427387904):∀ (suf pre:List Int) (acc i:Int),l=pre++suf→i=(pre.length:Int)→U64 acc→(∀ x∈suf,U64 x) →
  Z1z.l0 l acc i=some (if acc+suf.sum<18446744073709551616 then .inr (acc+suf.sum) else .inl (0,5)):=by
 intro suf
 induction suf with
 | nil =>
  intro pre acc i h1 hi ha hs;subst h1;rw[Z1z.l0,if_neg (by simp[hi])];simp[ha.2]
 | cons x suf ih =>
  intro pre acc i h1 hi ha hs;have hx:=hs x (by simp);have hs':∀ y∈suf,U64 y:=fun y hy=>hs y (by simp[hy])
  have hnn:0≤suf.sum:=Z3i (fun y hy=>(hs' y hy).1);have hlen:(l.length:Int)=pre.length+(suf.length+1):=by rw[h1];simp
  rw[Z1z.l0,if_pos (by rw[h1];simp[hi];omega),Z1v h1 hi,sb,wrapU (n:=18446744073709551615-acc) (by omega) (by omega)];by_cases hov:acc+x<18446744073709551616
  ·rw[if_neg (by simp;omega),Ze     (by omega) (by omega),wrapU (by omega) (by omega)]
   rw[ih (pre++[x]) (acc+x) (i+1) (by simp[h1]) (by simp;omega) ⟨by omega,hov⟩ hs'];rw[List.sum_cons,Int.add_assoc]
  ·rw[if_pos (by simp;omega),if_neg (by rw[List.sum_cons];omega)]
theorem ref_add (l:List Int) (hl:l.length<4611686018427387904) (h:∀ x∈l,U64 x) :
  Z1z.f l=some (if l.sum<18446744073709551616 then(l.sum,0) else(0,5)):=by
 unfold Z1z.f;rw[ref_add_l0 l hl l [] 0 0 rfl rfl (by omega) h,sb,Int.zero_add];by_cases h:l.sum<18446744073709551616
 ·rw[if_pos h,if_pos h]
 ·rw[if_neg h,if_neg h]
theorem ref_check_l1 (h:Zi) (x124:Int) (l:List Z2) (hs:Z21 h.f1) (hl:l.length<1000000):∀ (suf pre:List Z2) (acc:List Int) (i:Int),l=pre++suf→i=(pre.length:Int)→acc.length+suf.length<10000000→(∀ b∈suf,I64 b.f0∧U64 b.f1) →
  ∃ r,Zg.l1 h x124 l acc i=some r∧(∀ c,r = .inl c→c≠0)∧((∃ a,r = .inr a)↔(∀ b∈suf,BOk h.f1 h.f2 b)∧Up ((pre.getLast?).map (·.f0)) suf)∧∀ a,r = .inr a→a=acc++suf.map (·.f1):=by
 intro suf
 induction suf with
 | nil =>
  intro pre acc i h1 hi _ _;subst h1;rw[Zg.l1,if_neg (by simp[hi])];exact⟨_,rfl,by simp,by simp[Up],by simp⟩
 | cons x suf ih =>
  intro pre acc i h1 hi ha hU;have hx:=hU x (by simp);have hlen:(l.length:Int)=pre.length+(suf.length+1):=by rw[h1];simp
  simp only[List.length_cons] at ha;rw[Zg.l1,if_pos (by simp;omega),Z1v h1 hi,sb,ref_in hs hx.1,sb];by_cases c1:InS h.f1 x.f0
  case neg =>
   rw[if_pos (by simp[c1])];exact⟨_,rfl,by simp,by simp;intro h;exact absurd h.ins c1,by simp⟩
  rw[if_neg (by simp[c1])];have hsm:=Z4k c1;have hprev:∃ c:Bool,((if(decide (i>(0:Int)))=true then((at? l (i64.wrap (i-(1:Int))))>>=fun b168=>some (decide (x.f0≤b168.f0))) else(some false)):Option (Bool))=some c∧(c=false↔∀ q,(pre.getLast?).map (·.f0)=some q→q<x.f0):=by
   by_cases h0:0<i
   ·obtain⟨q,e1,y,e2,e3⟩:=last_pre h1 hi h0 (by omega)
    rw[if_pos (by simpa using h0),e2,sb];exact⟨_,rfl,by rw[e1,e3];simp⟩
   ·rw[if_neg (by simpa using h0)]
    exact⟨_,rfl,by rw[no_pre hi h0];simp⟩
  obtain⟨c,ec,hc⟩:=hprev;rw[ec,sb,Ze (n:=x.f0-1) (by omega) (by omega),Z7f hs (by omega)];cases c with
  | true =>
   rw[if_pos rfl];refine⟨_,rfl,by simp,by simp;intro _ _ h2;exact absurd (hc.2 h2.1) (by simp),by simp⟩
  | false =>
   rw[if_neg (by simp)];by_cases c2:x.f1=0
   ·rw[if_pos (by simpa using c2)]
    exact⟨_,rfl,by simp,by simp;intro h;have:=h.pos;omega,by simp⟩
   rw[if_neg (by simpa using c2),sb];by_cases c3:(x.f0-1)*stp h.f1<h.f2
   ·rw[if_pos (by simpa using c3)]
    exact⟨_,rfl,by simp,by simp;intro h;have:=h.low;omega,by simp⟩
   rw[if_neg (by simpa using c3),chkB (by simp;omega),Ze (n:=i+1) (by omega) (by omega)];obtain⟨r,e,e1,e2,e3⟩:=ih (pre++[x]) (acc++[x.f1]) (i+1) (by simp[h1]) (by simp;omega) (by simp;omega) (fun b hb=>hU b (by simp[hb]));refine⟨r,e,e1,?_,fun a ha=>by rw[e3 a ha];simp⟩;rw[e2];simp only[List.getLast?_append,List.getLast?_singleton,Option.some_or,Option.map_some,Up,List.forall_mem_cons];have hb:BOk h.f1 h.f2 x:=⟨c1,by omega,by omega⟩
   constructor
   ·rintro⟨a,b⟩;exact⟨⟨hb,a⟩,hc.1 rfl,b⟩
   ·rintro⟨⟨_,a⟩,_,b⟩;exact⟨a,b⟩
theorem Z52 (h:Zi) (x124:Int) (l:List Z2) (acc:List Int) (hs:Z21 h.f1) (hl:l.length<1000000000000000) (ha:acc.length<1000000) (hU:∀ b∈l,I64 b.f0∧U64 b.f1) :
  ∃ r:Int ⊕ List Int,(if(decide ((l.length:Int)>(512:Int)))=true then(some (.inl 9)) else(Zg.l1 h x124 l acc 0))=some r∧(∀ c,r = .inl c→c≠0)∧((∃ a,r = .inr a)↔Side h.f1 h.f2 l)∧∀ a,r = .inr a→a=acc++l.map (·.f1):=by
 by_cases h0:l.length>512
 ·rw[if_pos (by simp;omega)]
  exact⟨_,rfl,by simp,by simp;intro h;have:=h.len;omega,by simp⟩
 ·rw[if_neg (by simp;omega)]
  obtain⟨r,e,e1,e2,e3⟩:=ref_check_l1 h x124 l hs (by omega) l [] acc 0 rfl rfl (by omega) hU;refine⟨r,e,e1,e2.trans ⟨fun⟨h1,h2⟩=>⟨by omega,h1,((up_iff l _).1 h2).2⟩,fun h=>⟨h.ok,(up_iff l _).2 ⟨by simp,h.up⟩⟩⟩,e3⟩
theorem ref_check_iff (h:Zi) (hf:Fits h) (hp:h.f6.length<1000000000000000) (hn:h.f7.length<1000000000000000):∃ r,Zg.f h=some r∧(r=0↔Valid h):=by
 unfold Zg.f;have hk:((if(h.f0 != (0:Int))=true then(some (h.f0 != (1:Int))) else(some false)):Option (Bool))=some (!decide (h.f0=0∨h.f0=1)):=by
  by_cases h1:h.f0=0
  ·simp[h1]
  ·by_cases h2:h.f0=1<;>simp[h1,h2]
 rw[hk,sb];by_cases c1:h.f0=0∨h.f0=1
 case neg=>rw[if_pos (by simpa using c1)];exact⟨_,rfl,by simp;intro h;exact c1 h.kind⟩
 rw[if_neg (by rw[decide_eq_true c1];decide),Z5g,sb];by_cases c2:Z21 h.f1
 case neg=>rw[if_pos (by simp[c2])];exact⟨_,rfl,by simp;intro h;exact c2 h.schema⟩
 rw[if_neg (by simp[c2])];have hz:((if(h.f2 != (-524288))=true then(if(decide (h.f2≤(-262144)))=true then(some true) else(some (decide (h.f2>(262144:Int))))) else(some false)):Option (Bool))=some (!decide (h.f2 = -524288∨(-262144<h.f2∧h.f2≤262144))):=by
  by_cases h1:h.f2 = -524288
  ·simp[h1]
  ·by_cases h2:h.f2 ≤ -262144
   ·simp[h1,h2]
   ·have h4 : -262144<h.f2:=by omega
    by_cases h3:h.f2≤262144
    ·simp[h1,h2,h3,h4]
    ·simp[h1,h2,h3,h4];omega
 rw[hz,sb];by_cases c3:h.f2 = -524288∨(-262144<h.f2∧h.f2≤262144)
 case neg=>rw[if_pos (by simp[c3])];exact⟨_,rfl,by simp;intro h;exact c3 h.zero⟩
 rw[if_neg (by simp[c3])];obtain⟨r1,e1,n1,i1,j1⟩:=Z52 h 0 h.f6 [h.f3] c2 hp (by simp) hf.pos;have w1:i64.wrap (0+1)=1:=by decide
 have w2:i64.wrap (1+1)=2:=by decide
 have step:∀ (k:Int) (l:List Z2) (acc:List Int),(k=0∧l=h.f6∨k=1∧l=h.f7)→Zg.l0 h acc k=((if(decide ((l.length:Int)>(512:Int)))=true then(some (.inl 9)) else(Zg.l1 h k l acc 0))>>=fun(oo:Int ⊕ List Int)=>match oo with | .inl rr=>(some (.inl rr)) | .inr x181=>(Zg.l0 h x181 (k+1))):=by
  intro k l acc hk;rcases hk with ⟨rfl,rfl⟩ | ⟨rfl,rfl⟩
  ·rw[Zg.l0,if_pos (by decide),if_neg (by decide),sb,w1,Z5s];rfl
  ·rw[Zg.l0,if_pos (by decide),if_pos (by decide),sb,w2,Z5s];rfl
 rw[step 0 h.f6 _ (.inl ⟨rfl,rfl⟩),e1,sb];cases r1 with
 | inl c=>exact⟨c,rfl,fun h=>absurd h (n1 c rfl),fun h=>by obtain⟨a,e⟩:=i1.2 h.pos;cases e⟩
 | inr a1 =>
  have hv1:=i1.1 ⟨_,rfl⟩;have ha1:=j1 a1 rfl;have hl1:=hv1.len;obtain⟨r2,e2,n2,i2,j2⟩:=Z52 h 1 h.f7 a1 c2 hn (by rw[ha1];simp;omega) hf.neg;simp only[];rw[show(0:Int)+1=1 from rfl,step 1 h.f7 _ (.inr ⟨rfl,rfl⟩),e2,sb];cases r2 with
  | inl c=>exact⟨c,rfl,fun h=>absurd h (n2 c rfl),fun h=>by obtain⟨a,e⟩:=i2.2 h.neg;cases e⟩
  | inr a2 =>
   have hv2:=i2.1 ⟨_,rfl⟩;have ha2:=j2 a2 rfl;have hl2:=hv2.len;simp only[];rw[show(1:Int)+1=2 from rfl,Zg.l0,if_neg (by decide),sb];simp only[];have hall:a2=[h.f3]++h.f6.map (·.f1)++h.f7.map (·.f1):=by rw[ha2,ha1]
   have hsum:a2.sum=cnt h.f6+cnt h.f7+h.f3:=by rw[hall];simp[cnt];omega
   rw[ref_add a2 (by rw[hall];simp;omega) (by
    intro x hx;rw[hall] at hx;simp only[List.mem_append,List.mem_singleton,List.mem_map] at hx;rcases hx with (rfl | ⟨b,hb,rfl⟩) | ⟨b,hb,rfl⟩
    ·exact hf.zero
    ·exact(hf.pos b hb).2
    ·exact(hf.neg b hb).2),sb,hsum]
   by_cases c4:cnt h.f6+cnt h.f7+h.f3<18446744073709551616
   case neg=>rw[if_neg c4,if_pos (by simp)];exact⟨_,rfl,by simp;intro h;exact c4 h.total⟩
   rw[if_pos c4,if_neg (by simp)];by_cases c5:cnt h.f6+cnt h.f7+h.f3=h.f4
   ·rw[if_neg (by simpa using c5)]
    exact⟨0,rfl,fun _=>⟨c1,c2,c3,hv1,hv2,c4,c5.symm⟩,fun _=>rfl⟩
   ·rw[if_pos (by simpa using c5)]
    exact⟨_,rfl,by simp;intro h;exact c5 h.count.symm⟩
def bktL (b:Z2):List UInt8:=Lib.itoa b.f0++58::Lib.itoa b.f1
def Z26 (l:List Z2):List UInt8:=Z6v 44 (l.map bktL)
def BR (l:List Z2):Prop:=l.length≤600∧∀ b∈l,I64 b.f0∧U64 b.f1
theorem bkt_len {b:Z2} (h:I64 b.f0∧U64 b.f1):(bktL b).length≤43:=by
 have h1:=Z2h (n:=b.f0) (by have:=h.1.1;omega) (by have:=h.1.2;omega);have h2:=Z2h (n:=b.f1) (by have:=h.2.1;omega) (by have:=h.2.2;omega);simp[bktL];omega
theorem join_len (c:UInt8) (k:Nat):∀ ws:List (List UInt8),(∀ w∈ws,w.length≤k)→(Z6v c ws).length≤(k+1)*ws.length:=by
 have key:∀ q:List (List UInt8),(∀ w∈q,w.length≤k)→(q.flatMap (fun b=>c::b)).length≤(k+1)*q.length:=fun q=>by
  induction q with
  | nil=>intro _;simp
  | cons x q ih =>
   intro h;have:=ih (fun y hy=>h y (by simp[hy]));have h1:=h x (by simp);simp only[List.flatMap_cons,List.length_append,List.length_cons,Nat.mul_add];omega
 intro ws h;cases ws with
 | nil=>simp[Z6v]
 | cons w r =>
  have h1:=h w (by simp);have h2:=key r (fun y hy=>h y (by simp[hy]));simp only[Z6v,List.length_append,List.length_cons,Nat.mul_add];omega
theorem Z3c {l:List Z2} (h:BR l):(Z26 l).length≤26400:=by
 have:=join_len 44 43 (l.map bktL) (fun w hw=>by
  obtain⟨b,hb,rfl⟩:=List.mem_map.1 hw;exact bkt_len (h.2 b hb))
 have h2:=h.1;rw[List.length_map] at this;unfold Z26;omega
theorem side_l0 (l:List Z2) (h:BR l):∀ (suf pre:List Z2) (i:Int),l=pre++suf→i=(pre.length:Int) →
  Z0k.l0 l (pre.map fun b=>txt (bktL b)) i=some (l.map fun b=>txt (bktL b)):=by
 intro suf;have hl:=h.1
 induction suf with
 | nil=>intro pre i h1 hi;rw[Z0k.l0,if_neg (by rw[h1];simp[hi]),h1,List.append_nil]
 | cons b suf ih =>
  intro pre i h1 hi;have hlen:l.length=pre.length+(suf.length+1):=by rw[h1];simp
  have hb:=h.2 b (by rw[h1];simp);have i1:=Z2h (n:=b.f0) (by have:=hb.1.1;omega) (by have:=hb.1.2;omega);have i2:=Z2h (n:=b.f1) (by have:=hb.2.1;omega) (by have:=hb.2.2;omega);have z:(⟨#[58]⟩:ByteArray).size=1:=rfl;have e:txt (Lib.itoa b.f0)++(⟨#[58]⟩:ByteArray)++txt (Lib.itoa b.f1)=txt (bktL b):=Z3s (by simp only[Z1h,Z1r,bktL];rw[L_mk];simp);have next:=ih (pre++[b]) (i+1) (by simp[h1]) (by simp;omega)
  rw[List.map_append] at next
  rw[Z0k.l0,if_pos (by simp;omega),Z1v h1 hi,sb,fmtA _ (by have:=hb.1.1;omega) (by have:=hb.1.2;omega),sb,chkB (by rw[Z0q,z];omega),fmtU _ hb.2.1 hb.2.2,sb,chkB (by rw[ByteArray.size_append,Z0q,Z0q,z];omega),chkB (by simp;omega),e,Ze (by omega) (by omega)];exact next
theorem side_eq (l:List Z2) (h:BR l):Z0k.f l=some (txt (Z26 l)):=by
 unfold Z0k.f;rw[show Z0k.l0 l [] 0=_ from side_l0 l h l [] 0 rfl rfl,sb,fjoin _ _ (by simpa using Nat.le_trans h.1 (by decide)) (fun w hw=>by
  obtain⟨b,hb,rfl⟩:=List.mem_map.1 hw;have:=bkt_len (h.2 b hb);rw[Z0q];omega),sb,List.map_map]
 rfl
theorem cut58 (A B:List UInt8) (hA:58 ∉ A) (h0:A≠[]) (hl:A.length+B.length≤100000):Z1i.f (txt (A++58::B))=some (txt A,txt B,true):=by
 unfold Z1i.f Z14.f Z0u.f Zo.f;have hA0:0<A.length:=List.length_pos_iff.2 h0;have e:((⟨#[58]⟩:ByteArray).toList==(txt (A++58::B)).toList)=false:=by
  rw[Zv,Zv,Z1r,beq_eq_false_iff_ne];intro q;have:=congrArg List.length q;simp at this;omega
 have z:(⟨#[58]⟩:ByteArray).size=1:=rfl;have hib:Lib.indexByte (txt (A++58::B)).data.toList (Int.toNat (bt (⟨#[58]⟩:ByteArray) 0)).toUInt8=(A.length:Int):=by
  rw[btc,u8c,show(txt (A++58::B)).data.toList=A++58::B from Z1r _];exact ib_first 58 A B hA
 have hs:(txt (A++58::B)).size=A.length+B.length+1:=by rw[Z0q];simp;omega
 rw[e,if_neg (by simp),z,chkB (by decide),sb,hib,sb,if_pos (by simp),chkB (by omega),Ze (by omega) (by omega),chkB (by omega),sb];dsimp only;have e1:(txt (A++58::B)).extract (Int.toNat 0) (Int.toNat (A.length:Int))=txt A:=Z3s (by rw[Z18,Z1r,Z1r];simp);have e2:(txt (A++58::B)).extract (Int.toNat ((A.length:Int)+1)) (Int.toNat ((txt (A++58::B)).size:Int))=txt B:=Z3s (by
  rw[Z18,Z1r,Z1r,show Int.toNat ((A.length:Int)+1)=A.length+1 by omega,← List.drop_drop,List.drop_left,List.drop_succ_cons,List.drop_zero,hs];exact List.take_of_length_le (by omega))
 rw[e1,e2]
theorem buckets_l0' (l:List Z2) (h:BR l):∀ (suf pre:List Z2) (i:Int),l=pre++suf→i=(pre.length:Int) →
  Z01.l0 (l.map fun b=>txt (bktL b)) pre i=some (.inr l):=by
 intro suf;have hl:=h.1
 induction suf with
 | nil=>intro pre i h1 hi;rw[Z01.l0,if_neg (by rw[h1];simp[hi]),h1,List.append_nil]
 | cons b suf ih =>
  intro pre i h1 hi;have hlen:l.length=pre.length+(suf.length+1):=by rw[h1];simp
  have hb:=h.2 b (by rw[h1];simp);have i1:=Z2h (n:=b.f0) (by have:=hb.1.1;omega) (by have:=hb.1.2;omega);have i2:=Z2h (n:=b.f1) (by have:=hb.2.1;omega) (by have:=hb.2.2;omega);have hat:at? (l.map fun b=>txt (bktL b)) i=some (txt (bktL b)):=Z1v (pre:=pre.map fun b=>txt (bktL b)) (suf:=suf.map fun b=>txt (bktL b)) (by rw[h1];simp) (by simpa using hi);rw[Z01.l0,if_pos (by simp;omega),hat,sb,bktL,cut58 _ _ (Z2n (by decide)) (Z4j _) (by omega),sb];dsimp only;rw[Z3u _ b.f0 (Z1r _) (by have:=hb.1.1;omega) (by have:=hb.1.2;omega),sb,Z8n _ b.f1 (Z1r _) hb.2.1 hb.2.2,sb];dsimp only;rw[if_neg (by simp),if_neg (by simp),sb,if_neg (by simp),chkB (by simp;omega),Ze (by omega) (by omega)];exact ih (pre++[b]) (i+1) (by simp[h1]) (by simp;omega)
theorem Z8p (l:List Z2) (h:BR l):Z01.f (txt (Z26 l))=some (l,true):=by
 unfold Z01.f;rcases List.eq_nil_or_concat l with rfl | ⟨P,p,hP⟩
 ·rw[if_pos (by rw[Zv,Zv,Z1r];rfl)]
 ·rw[List.concat_eq_append] at hP
  have hT:Z26 l=T 44 (P.map bktL) (bktL p):=by rw[Z26,hP,List.map_append,List.map_singleton];exact joinS_T 44 _ _
  have hne:Z26 l≠[]:=by
   rw[hT];intro q;have:=congrArg List.length q;have h2:0<(bktL p).length:=by unfold bktL;rw[List.length_append,List.length_cons];omega
   rw[T,List.length_append,List.length_nil] at this;omega
  have n44:∀ b,44 ∉ bktL b:=fun b=>by
   unfold bktL;intro q;rcases List.mem_append.1 q with q | q
   ·exact Z2n (by decide) q
   ·rcases List.mem_cons.1 q with q | q
    ·exact absurd q (by decide)
    ·exact Z2n (by decide) q
  have sl:=Z3c h;rw[if_neg (by rw[Zv,Zv,Z1r];simpa using hne),split_eq _ 44 (P.map bktL) (bktL p) (by rw[Z1r,hT]) (fun w hw=>by
   obtain⟨b,hb,rfl⟩:=List.mem_map.1 hw;exact⟨n44 b,by simp[bktL]⟩) (n44 p) (by rw[Z0q];omega),sb]
  have e:(P.map bktL++[bktL p]).map txt=l.map fun b=>txt (bktL b):=by rw[hP];simp
  rw[e,show Z01.l0 _ [] 0=_ from buckets_l0' l h l [] 0 rfl rfl,sb]
def Z59 (k:Int):List UInt8:=if k=1 then [103,97,117,103,101] else [99,111,117,110,116,101,114]
def Z4a (z:Int):List UInt8:=if z = -524288 then [110,111,110,101] else Lib.itoa z
def Z64 (h:Zi):List (List UInt8):=[Z59 h.f0,Lib.itoa h.f1,Z4a h.f2,Lib.itoa h.f3,Lib.itoa h.f5,43::Z26 h.f6]
def Z65 (h:Zi):List UInt8:=T 32 (Z64 h) (45::Z26 h.f7)
end Go.Proofs.YtlkonkfkapdimaaGreatDoor.PvGR
namespace Go.Proofs.YtlkonkfkapdimaaGreatDoor.PvGR
open Go Go.Pv Go.Pv.GS Go.IntKind
open Classical
structure Bs (s z:Int) (l:List Z2):Prop where
 len:l.length≤5000
 ok:∀ b∈l,InS s b.f0∧0≤b.f1∧z≤(b.f0-1)*stp s
def Strad (s a:Int) (l:List Z2):Prop:=∃ b∈l,(b.f0-1)*stp s<a∧a<b.f0*stp s
def cg (s a:Int):Int:=-((-a) / stp s)*stp s
abbrev above (s a:Int) (i:Int):Bool:=decide (a<i*stp s)
abbrev dropL (s a:Int) (l:List Z2):List Z2:=l.filter (fun b => !above s a b.f0)
noncomputable def zAt (s a:Int) (p n:List Z2):Int:=if Strad s a p∨Strad s a n then cg s a else a
structure Cs (s:Int) (l:List Z2):Prop where
 len:l.length≤5000
 ins:∀ b∈l,InS s b.f0
 pos:∀ b∈l,0<b.f1
structure Swal (h:Zi) (p n:List Z2) (a:Int) (r:Zi):Prop where
 valid:Valid r
 fits:Fits r
 kind:r.f0=h.f0
 schema:r.f1=h.f1
 zeroAt:r.f2=zAt h.f1 a p n
 zero:r.f3=h.f3+cnt (dropL h.f1 (zAt h.f1 a p n) p)+cnt (dropL h.f1 (zAt h.f1 a p n) n)
 sum:r.f5=h.f5
 tpos:∀ i,tot r.f6 i=if above h.f1 (zAt h.f1 a p n) i=true then tot p i else 0
 tneg:∀ i,tot r.f7 i=if above h.f1 (zAt h.f1 a p n) i=true then tot n i else 0
 count:r.f4=cnt p+cnt n+h.f3
def rat (f t:Int):Int:=2 ^ (f-t).toNat
def upI (f t i:Int):Int:=-((-i) / rat f t)
def downL (f t:Int) (l:List Z2):List Z2:=l.map (fun b=>⟨upI f t b.f0,b.f1⟩)
def h0:Zi:=⟨0,0,0,0,0,0,[],[]⟩
structure Cut (a:Zi) (s z:Int) (r:Zi):Prop where
 valid:Valid r
 fits:Fits r
 kind:r.f0=a.f0
 schema:r.f1=s
 zeroAt:r.f2=z
 count:r.f4=a.f4
 sum:r.f5=a.f5
 tpos:∀ i,tot r.f6 i=if above s z i=true then tot (downL a.f1 s a.f6) i else 0
 tneg:∀ i,tot r.f7 i=if above s z i=true then tot (downL a.f1 s a.f7) i else 0
def Cand (hv:Bool) (last:Int) (b:Z2):Prop:=hv=false∨last<b.f0
structure Least (hv:Bool) (last:Int) (l:List Z2) (fd:Bool) (nx:Int):Prop where
 none:fd=false→∀ b∈l,¬ Cand hv last b
 some:fd=true→(∃ b∈l,Cand hv last b∧b.f0=nx)∧∀ b∈l,Cand hv last b→nx≤b.f0
end Go.Proofs.YtlkonkfkapdimaaGreatDoor.PvGR
namespace Go.Proofs.YtlkonkfkapdimaaGreatDoor.PvGR
open Go Go.Pv Go.Pv.GS Go.IntKind
theorem eqloop {α:Type} [DecidableEq α] (a b:List α) (hl:a.length=b.length) (ha:a.length<1000000000000) (ne:α→α→Bool) (hne:∀ x y,ne x y = !decide (x=y)) (F:Int→Option (Bool ⊕ Unit))
  (hF:∀ i,F i=if(decide (i<(a.length:Int)))=true then((at? a i)>>=fun x=>(at? b i)>>=fun y=>if ne x y=true then(some (.inl false)) else F (i64.wrap (i+(1:Int)))) else(some (.inr ()))) :
  ∀ (sa pa sb' pb:List α) (i:Int),a=pa++sa→b=pb++sb'→pa.length=pb.length→i=(pa.length:Int)→F i=some (if sa=sb' then .inr () else .inl false):=by
 intro sa
 induction sa with
 | nil =>
  intro pa sb' pb i h1 h2 h3 hi;have e:sb'=[]:=by
   have l1:=congrArg List.length h1;have l2:=congrArg List.length h2;simp only[List.length_append,List.length_nil] at l1 l2;exact List.length_eq_zero_iff.1 (by omega)
  rw[hF,if_neg (by rw[h1];simp[hi]),e,if_pos rfl]
 | cons x sa ih =>
  intro pa sb' pb i h1 h2 h3 hi;have l1:=congrArg List.length h1;have l2:=congrArg List.length h2;simp only[List.length_append,List.length_cons] at l1 l2;cases sb' with
  | nil=>simp only[List.length_nil] at l2;omega
  | cons y sb' =>
   rw[hF,if_pos (by simp;omega),Z1v h1 hi,sb,Z1v h2 (by omega),sb,hne,Ze (by omega) (by omega)];by_cases c:x=y
   ·subst c
    rw[if_neg (by simp),ih (pa++[x]) sb' (pb++[x]) (i+1) (by simp[h1]) (by simp[h2]) (by simp[h3]) (by simp;omega)];by_cases c2:sa=sb'
    ·rw[if_pos c2,if_pos (by rw[c2])]
    ·rw[if_neg c2,if_neg (by simp[c2])]
   ·rw[if_pos (by simp[c]),if_neg (by simp[c])]
theorem bkt_ne (x y:Z2):(!((x.f0==y.f0)&&((x.f1==y.f1)&&true))) = !decide (x=y):=by
 obtain⟨a,b⟩:=x;obtain⟨c,d⟩:=y;by_cases h1:a=c<;>by_cases h2:b=d<;>simp[h1,h2]
theorem rsame_eq (a b:List Z2) (ha:a.length<1000000000000):Z13.f a b=some (decide (a=b)):=by
 unfold Z13.f;by_cases hl:a.length=b.length
 ·have L:=eqloop a b hl ha (fun x y => !((x.f0==y.f0)&&((x.f1==y.f1)&&true))) bkt_ne (       Z13.l0 a b) (fun i=>by rw[       Z13.l0]) a [] b [] 0 rfl rfl rfl rfl
  rw[if_neg (by simp;omega),L,sb];by_cases c:a=b
  ·rw[if_pos c,decide_eq_true c]
  ·rw[if_neg c,decide_eq_false c]
 ·rw[if_pos (by simp;omega),decide_eq_false (fun h=>hl (by rw[h]))]
theorem rSame_eq (a b:Zi) (h6:a.f6.length<1000000000000) (h7:a.f7.length<1000000000000):Z2x.f a b=some (decide (a=b)):=by
 unfold Z2x.f;rw[rsame_eq _ _ h6,rsame_eq _ _ h7];obtain⟨a0,a1,a2,a3,a4,a5,a6,a7⟩:=a;obtain⟨b0,b1,b2,b3,b4,b5,b6,b7⟩:=b;simp only[sb];by_cases c0:a0=b0
 case neg=>rw[if_neg (by simpa using c0),sb,decide_eq_false (by simp[c0])]
 by_cases c1:a1=b1
 case neg=>rw[if_pos (by simpa using c0),if_neg (by simpa using c1),sb,decide_eq_false (by simp[c1])]
 by_cases c2:a2=b2
 case neg=>rw[if_pos (by simpa using c0),if_pos (by simpa using c1),if_neg (by simpa using c2),sb,decide_eq_false (by simp[c2])]
 by_cases c3:a3=b3
 case neg=>rw[if_pos (by simpa using c0),if_pos (by simpa using c1),if_pos (by simpa using c2),if_neg (by simpa using c3),sb,decide_eq_false (by simp[c3])]
 by_cases c4:a4=b4
 case neg=>rw[if_pos (by simpa using c0),if_pos (by simpa using c1),if_pos (by simpa using c2),if_pos (by simpa using c3),if_neg (by simpa using c4),sb,decide_eq_false (by simp[c4])]
 by_cases c5:a5=b5
 case neg=>rw[if_pos (by simpa using c0),if_pos (by simpa using c1),if_pos (by simpa using c2),if_pos (by simpa using c3),if_pos (by simpa using c4),if_neg (by simpa using c5),sb,decide_eq_false (by simp[c5])]
 rw[if_pos (by simpa using c0),if_pos (by simpa using c1),if_pos (by simpa using c2),if_pos (by simpa using c3),if_pos (by simpa using c4),if_pos (by simpa using c5)];by_cases c6:a6=b6
 case neg=>rw[if_neg (by simpa using c6),sb,decide_eq_false (by simp[c6])]
 by_cases c7:a7=b7
 case neg=>rw[if_pos (by simpa using c6),decide_eq_false c7,sb,decide_eq_false (by simp[c7])]
 rw[if_pos (by simpa using c6),decide_eq_true c7,sb,decide_eq_true (by simp[c0,c1,c2,c3,c4,c5,c6,c7])]
structure HOk (h:Zi):Prop where
 fits:Fits h
 valid:Valid h
theorem HOk.pos {h:Zi} (k:HOk h):BR h.f6:=⟨by have:=k.valid.pos.len;omega,k.fits.pos⟩
theorem HOk.neg {h:Zi} (k:HOk h):BR h.f7:=⟨by have:=k.valid.neg.len;omega,k.fits.neg⟩
theorem kind_len (k:Int):(Z59 k).length≤7:=by unfold Z59;split<;>simp
theorem zero_len {h:Zi} (k:HOk h):(Z4a h.f2).length≤21:=by
 unfold Z4a;split
 ·simp
 ·exact Z2h (by have:=k.fits.zeroAt.1;omega) (by have:=k.fits.zeroAt.2;omega)
theorem HOk.s1 {h:Zi} (k:HOk h):(Lib.itoa h.f1).length≤21:=Z2h (by have:=k.fits.schema.1;omega) (by have:=k.fits.schema.2;omega)
theorem HOk.s3 {h:Zi} (k:HOk h):(Lib.itoa h.f3).length≤21:=Z2h (by have:=k.fits.zero.1;omega) (by have:=k.fits.zero.2;omega)
theorem HOk.s5 {h:Zi} (k:HOk h):(Lib.itoa h.f5).length≤21:=Z2h (by have:=k.fits.sum.1;omega) (by have:=k.fits.sum.2;omega)
theorem Z5o {h:Zi} (k:HOk h):(Z65 h).length≤60000:=by
 have h1:=Z3c k.pos;have h2:=Z3c k.neg;have h3:=kind_len h.f0;have h4:=zero_len k;have h5:=k.s1;have h6:=k.s3;have h7:=k.s5;simp[Z65,Z64,T];omega
theorem kind_at {h:Zi} (k:HOk h):at? gt0 h.f0=some (txt (Z59 h.f0)):=by
 rcases k.valid.kind with e | e<;>rw[e]<;>rfl
theorem kind_ix {h:Zi} (k:HOk h):Zr.f gt0 (txt (Z59 h.f0))=some h.f0:=by
 rcases k.valid.kind with e | e<;>rw[e]
 ·show                    Zr.f gt0 (⟨#[99,111,117,110,116,101,114]⟩:ByteArray)=some 0
  cbv
 ·show                    Zr.f gt0 (⟨#[103,97,117,103,101]⟩:ByteArray)=some 1
  cbv
theorem fHist_ok (h:Zi) (k:HOk h):Z1p.f h=some (txt (Z65 h),0):=by
 unfold Z1p.f;have zr:=k.fits.zeroAt;have h1:=Z3c k.pos;have h2:=Z3c k.neg;have h3:=kind_len h.f0;have h4:=zero_len k;have h5:=k.s1;have h6:=k.s3;have h7:=k.s5;have hz:((if(h.f2 != (-524288:Int))=true then((Z0l.f h.f2)>>=fun t2156=>some t2156) else(some (⟨#[110,111,110,101]⟩:ByteArray))):Option (ByteArray))=some (txt (Z4a h.f2)):=by
  by_cases e:h.f2 = -524288
  ·rw[if_neg (by simp[e]),Z4a,if_pos e];rfl
  ·rw[if_pos (by simpa using e),fmtA _ zr.1 zr.2,sb,Z4a,if_neg e]
 have z43:(⟨#[43]⟩:ByteArray).size=1:=rfl;have z45:(⟨#[45]⟩:ByteArray).size=1:=rfl;rw[check_T h k.fits k.valid,sb,if_neg (by simp),hz,sb,kind_at k,sb,fmtA _ k.fits.schema.1 k.fits.schema.2,sb,fmtU _ k.fits.zero.1 k.fits.zero.2,sb,fmtI _ k.fits.sum.1 k.fits.sum.2,sb,side_eq _ k.pos,sb,chkB (by rw[Z0q,z43];omega),side_eq _ k.neg,sb,chkB (by rw[Z0q,z45];omega)];have e1:(⟨#[43]⟩:ByteArray)++txt (Z26 h.f6)=txt (43::Z26 h.f6):=Z3s (by rw[Z1h,Z1r,Z1r];rfl);have e2:(⟨#[45]⟩:ByteArray)++txt (Z26 h.f7)=txt (45::Z26 h.f7):=Z3s (by rw[Z1h,Z1r,Z1r];rfl);rw[e1,e2,fjoin _ 32 (by simp) (fun w hw=>by
  simp only[List.mem_cons,List.not_mem_nil,or_false] at hw;rcases hw with rfl | rfl | rfl | rfl | rfl | rfl | rfl<;>rw[Z0q]<;>(try simp only[List.length_cons])<;>omega),sb]
 simp only[List.map_cons,List.map_nil,Z1r];exact congrArg (fun l=>some (txt l,(0:Int))) (joinS_T 32 (Z64 h) (45::Z26 h.f7))
theorem fHist_no (h:Zi) {r:Int} (e:Zu.f h=some r) (hr:r≠0):Z1p.f h=some ((⟨#[]⟩:ByteArray),r):=by
 unfold Z1p.f;rw[e,sb,if_pos (by simpa using hr)]
theorem join_mem {c s:UInt8}:∀ {ws:List (List UInt8)},c∈Z6v s ws→c=s∨∃ w∈ws,c∈w
 | [],h=>by simp[Z6v] at h
 | w::r,h=>by
  rcases List.mem_append.1 h with h | h
  ·exact .inr ⟨w,by simp,h⟩
  ·obtain⟨v,hv,h⟩:=List.mem_flatMap.1 h
   rcases List.mem_cons.1 h with h | h
   ·exact .inl h
   ·exact .inr ⟨v,by simp[hv],h⟩
theorem side_not {l:List Z2} {c:UInt8} (h:c.toNat<44∨58<c.toNat):c ∉ Z26 l:=by
 intro hc;rcases join_mem hc with e | ⟨w,hw,e⟩
 ·subst e;simp at h
 ·obtain⟨b,_,rfl⟩:=List.mem_map.1 hw
  rcases List.mem_append.1 e with e | e
  ·exact Z2n (by omega) e
  ·rcases List.mem_cons.1 e with e | e
   ·subst e;simp at h
   ·exact Z2n (by omega) e
theorem has_prefix (c:UInt8) (r:List UInt8):Z0b.f (txt (c::r)) (⟨#[c]⟩:ByteArray)=some true:=by
 unfold Z0b.f Z02.f;have z:(⟨#[c]⟩:ByteArray).size=1:=rfl;have e:(txt (c::r)).extract (Int.toNat 0) (Int.toNat ((1:Nat):Int))=(⟨#[c]⟩:ByteArray):=Z3s (by rw[Z18,Z1r];rfl);rw[z,Z0q,if_pos (by simp;omega),chkB (by simp;omega),e];simp[sb]
theorem make_id (h:Zi) (k:HOk h):Z2z.f (⟨h.f0,h.f1,h.f2,h.f3,0,h.f5,[],[]⟩:Zi) h.f6 h.f7=some (h,0):=by
 unfold Z2z.f;have l1:=k.valid.pos.len;have l2:=k.valid.neg.len;rw[tidy_id _ (by omega) (fun b hb=>(k.fits.pos b hb).2) k.valid.pos.canon,tidy_id _ (by omega) (fun b hb=>(k.fits.neg b hb).2) k.valid.neg.canon,sb,sb];dsimp only;rw[if_neg (by simp),total3 _ _ _ (by omega) (by omega) (fun b hb=>(k.fits.pos b hb).2) (fun b hb=>(k.fits.neg b hb).2) k.fits.zero,if_pos k.valid.total,sb];dsimp only;have hh:(⟨h.f0,h.f1,h.f2,h.f3,cnt h.f6+cnt h.f7+h.f3,h.f5,h.f6,h.f7⟩:Zi)=h:=by rw[← k.valid.count]
 rw[if_neg (by simp),hh,check_T h k.fits k.valid,sb,if_neg (by simp)]
theorem read_ok (h:Zi) (k:HOk h):Z2e.f (txt (Z65 h))=some (h,0):=by
 unfold Z2e.f;have zr:=k.fits.zeroAt;have hlen:=Z5o k;have h1:=Z3c k.pos;have h2:=Z3c k.neg;have sp:=split_eq (txt (Z65 h)) 32 (Z64 h) (45::Z26 h.f7) (Z1r _) (fun w hw=>by
  simp only[Z64,List.mem_cons,List.not_mem_nil,or_false] at hw;rcases hw with rfl | rfl | rfl | rfl | rfl | rfl
  ·exact⟨by unfold Z59;split<;>decide,by unfold Z59;split<;>simp⟩
  ·exact⟨Z2n (by decide),Z4j _⟩
  ·refine⟨?_,?_⟩<;>(unfold Z4a  ;split)
   ·decide
   ·exact Z2n (by decide)
   ·simp
   ·exact Z4j _
  ·exact⟨Z2n (by decide),Z4j _⟩
  ·exact⟨Z2n (by decide),Z4j _⟩
  ·exact⟨fun q=>by
    rcases List.mem_cons.1 q with q | q
    ·exact absurd q (by decide)
    ·exact side_not (by decide) q,by simp⟩) (fun q=>by
    rcases List.mem_cons.1 q with q | q
    ·exact absurd q (by decide)
    ·exact side_not (by decide) q) (by rw[Z0q];omega)
 simp only[Z64,List.cons_append,List.nil_append,List.map_cons,List.map_nil] at sp;rw[sp,sb,if_neg (by simp)];simp only[show ∀ a b c d e f g:ByteArray,at? [a,b,c,d,e,f,g] 0=some a from fun _ _ _ _ _ _ _=>rfl,show ∀ a b c d e f g:ByteArray,at? [a,b,c,d,e,f,g] 1=some b from fun _ _ _ _ _ _ _=>rfl,show ∀ a b c d e f g:ByteArray,at? [a,b,c,d,e,f,g] 2=some c from fun _ _ _ _ _ _ _=>rfl,show ∀ a b c d e f g:ByteArray,at? [a,b,c,d,e,f,g] 3=some d from fun _ _ _ _ _ _ _=>rfl,show ∀ a b c d e f g:ByteArray,at? [a,b,c,d,e,f,g] 4=some e from fun _ _ _ _ _ _ _=>rfl,show ∀ a b c d e f g:ByteArray,at? [a,b,c,d,e,f,g] 5=some f from fun _ _ _ _ _ _ _=>rfl,show ∀ a b c d e f g:ByteArray,at? [a,b,c,d,e,f,g] 6=some g from fun _ _ _ _ _ _ _=>rfl,sb,has_prefix];rw[if_neg (show ¬ ((!true)=true) by simp),sb,if_neg (show ¬ ((!true)=true) by simp),kind_ix k,sb,Z3u _ h.f1 (Z1r _) k.fits.schema.1 k.fits.schema.2,sb,Z8n _ h.f3 (Z1r _) k.fits.zero.1 k.fits.zero.2,sb,Z3u _ h.f5 (Z1r _) k.fits.sum.1 k.fits.sum.2,sb];have x1:(txt (43::Z26 h.f6)).extract (Int.toNat (1:Int)) (Int.toNat ((txt (43::Z26 h.f6)).size:Int))=txt (Z26 h.f6):=Z3s (by rw[extract1 _ 43 (Z26 h.f6) (Z1r _),Z1r]);have x2:(txt (45::Z26 h.f7)).extract (Int.toNat (1:Int)) (Int.toNat ((txt (45::Z26 h.f7)).size:Int))=txt (Z26 h.f7):=Z3s (by rw[extract1 _ 45 (Z26 h.f7) (Z1r _),Z1r]);rw[chkB (by rw[Z0q];simp;omega),x1,Z8p _ k.pos,sb,chkB (by rw[Z0q];simp;omega),x2,Z8p _ k.neg,sb];dsimp only;have hk:decide (h.f0≥(0:Int))=true:=by rcases k.valid.kind with e | e<;>rw[e]<;>rfl
 rw[hk];simp only[sb,if_true];have hz:((if(!((txt (Z4a h.f2)).toList==(⟨#[110,111,110,101]⟩:ByteArray).toList))=true then((Z0g.f (txt (Z4a h.f2)))>>=fun t590=>((if t590.2=true then(some (t590.1 != (-524288:Int))) else(some false)):Option (Bool))>>=fun x596=>some (t590.1,x596)) else(some ((-524288:Int),true))):Option (Int×Bool))=some (h.f2,true):=by
  by_cases e:h.f2 = -524288
  ·rw[if_neg (by rw[Zv,Zv,Z1r,Z4a,if_pos e];decide),e]
  ·have hn:Lib.itoa h.f2≠[110,111,110,101]:=fun q=>by
    have:(110:UInt8)∈Lib.itoa h.f2:=by rw[q];simp
    exact Z2n (by decide) this
   rw[Z4a,if_neg e,if_pos (by rw[Zv,Zv,Z1r];simpa using hn),Z3u _ h.f2 (Z1r _) zr.1 zr.2,sb];dsimp only;rw[if_pos rfl,sb];simp[e]
 have l1:=k.valid.pos.len;have l2:=k.valid.neg.len;rw[hz,sb];dsimp only;rw[if_neg (by simp),make_id h k,sb];dsimp only;rw[if_neg (by simp),Z8m _ (by omega),sb,if_neg (by simp),Z8m _ (by omega),sb,sb,if_neg (by simp)]
end Go.Proofs.YtlkonkfkapdimaaGreatDoor.PvGR
