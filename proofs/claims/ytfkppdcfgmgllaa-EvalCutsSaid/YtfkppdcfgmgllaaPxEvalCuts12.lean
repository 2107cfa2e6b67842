import Derived.Test.YtfkppdcfgmgllaaPxEvalCuts11
set_option linter.unusedVariables false
set_option linter.unusedSimpArgs false
namespace Go.Proofs.Ytfkppdcfgmgllaa.PvGD3
open Go Go.Pv Go.Pv.GS
theorem compare_int (a b:Int):f_cmp_Compare_int.f a b=some (if a<b then -1 else if a>b then 1 else 0):=by
 unfold f_cmp_Compare_int.f f_cmp_isNaN_int.f
 by_cases h1:a<b
 ·simp[h1]
 ·by_cases h2:b<a
  ·simp[h1,h2]
  ·simp[h1,h2]
theorem num_add_l0 (l:List Int) (hl:l.length<4611686018427387904):∀ (suf pre:List Int) (acc i:Int),l=pre++suf→i=(pre.length:Int)→U64 acc→(∀ x∈suf,U64 x) →
  f_num_Add.l0 l acc i=some (if acc+suf.sum<18446744073709551616 then .inr (acc+suf.sum) else .inl (0,5)):=by
 intro suf
 induction suf with
 | nil =>
  intro pre acc i h1 hi ha hs
  subst h1
  rw[f_num_Add.l0,if_neg (by simp[hi])]
  simp[ha.2]
 | cons x suf ih =>
  intro pre acc i h1 hi ha hs
  have hx:=hs x (by simp)
  have hs':∀ y∈suf,U64 y:=fun y hy=>hs y (by simp[hy])
  have hnn:0≤suf.sum:=isum_nonneg (fun y hy=>(hs' y hy).1)
  rw[f_num_Add.l0,if_pos (by rw[h1];simp[hi];omega)]
  rw[at_mid h1 hi,sb,chkB ⟨ha.1,hx.1,by omega,by omega⟩]
  have hlen:(l.length:Int)=pre.length+(suf.length+1):=by rw[h1];simp
  by_cases hov:acc+x<18446744073709551616
  ·rw[if_neg (by simp;omega),wrap64 (by omega) (by omega),show(acc+x+0) % 18446744073709551616=acc+x by omega]
   rw[ih (pre++[x]) (acc+x) (i+1) (by simp[h1]) (by simp;omega) ⟨by omega,hov⟩ hs']
   rw[List.sum_cons,Int.add_assoc]
  ·rw[if_pos (by simp;omega),if_neg (by rw[List.sum_cons];omega)]
theorem num_add (l:List Int) (hl:l.length<4611686018427387904) (h:∀ x∈l,U64 x) :
  f_num_Add.f l=some (if l.sum<18446744073709551616 then(l.sum,0) else(0,5)):=by
 unfold f_num_Add.f
 rw[num_add_l0 l hl l [] 0 0 rfl rfl (by omega) h,sb,Int.zero_add]
 by_cases h:l.sum<18446744073709551616
 ·rw[if_pos h,if_pos h]
 ·rw[if_neg h,if_neg h]
theorem num_add2 {a b:Int} (ha:U64 a) (hb:U64 b):f_num_Add.f [a,b]=some (if a+b<18446744073709551616 then(a+b,0) else(0,5)):=by
 rw[num_add [a,b] (by simp) (by simp;exact⟨ha,hb⟩)]
 simp
end Go.Proofs.Ytfkppdcfgmgllaa.PvGD3
set_option linter.unusedVariables false
set_option linter.unusedSimpArgs false
namespace Go.Proofs.Ytfkppdcfgmgllaa.PvGD3
open Go Go.Pv Go.Pv.GS
open Classical
structure Est (Y y1 y0 U d q r:Int):Prop where
 eq:q*y1+r=U
 lo:(U*4294967296+d) / Y≤q
 r0:0≤r
 r1:r<4294967296
 q1:q≤4294967297
structure Nm (Y y1 y0:Int):Prop where
 eq:Y=y1*4294967296+y0
 a0:0≤y0
 a1:y0<4294967296
 b0:2147483648≤y1
 b1:y1<4294967296
theorem Nm.pos {Y y1 y0:Int} (h:Nm Y y1 y0):0<Y:=by have:=h.eq;have:=h.a0;have:=h.b0;omega
end Go.Proofs.Ytfkppdcfgmgllaa.PvGD3
set_option linter.unusedVariables false
set_option linter.unusedSimpArgs false
namespace Go.Proofs.Ytfkppdcfgmgllaa.PvGD3
open Go Go.Pv Go.Pv.GS
def tot:List TBucket→Int→Int
 | [],_=>0
 | b::l,i=>(if b.f0=i then b.f1 else 0)+tot l i
abbrev Nn (l:List TBucket):Prop:=∀ b∈l,0≤b.f1
theorem tot_append (a b:List TBucket) (i:Int):tot (a++b) i=tot a i+tot b i:=by
 induction a with
 | nil=>simp[tot]
 | cons x a ih=>simp only[List.cons_append,tot,ih];omega
theorem tot_one (b:TBucket) (i:Int):tot [b] i=if b.f0=i then b.f1 else 0:=by simp[tot]
theorem tot_nonneg {l:List TBucket} (h:Nn l) (i:Int):0≤tot l i:=by
 induction l with
 | nil=>simp[tot]
 | cons b l ih =>
  have:=h b (by simp)
  have:=ih (fun y hy=>h y (by simp[hy]))
  rw[tot];split<;>omega
theorem tot_zero {l:List TBucket} {i:Int} (h:∀ b∈l,b.f0≠i):tot l i=0:=by
 induction l with
 | nil=>rfl
 | cons b l ih=>rw[tot,if_neg (h b (by simp)),ih (fun y hy=>h y (by simp[hy]))];rfl
theorem tot_mem {l:List TBucket} (h:Nn l) {b:TBucket} (hb:b∈l):b.f1≤tot l b.f0:=by
 induction l with
 | nil=>simp at hb
 | cons y l ih =>
  have h1:=h y (by simp)
  have h2:=tot_nonneg (l:=l) (fun z hz=>h z (by simp[hz])) b.f0
  rw[tot]
  rcases List.mem_cons.1 hb with rfl | hb
  ·simp;omega
  ·have:=ih (fun z hz=>h z (by simp[hz])) hb
   split<;>omega
theorem tot_perm {a b:List TBucket} (h:a.Perm b) (i:Int):tot a i=tot b i:=by
 induction h with
 | nil=>rfl
 | cons x _ ih=>simp only[tot,ih]
 | swap x y l=>simp only[tot];omega
 | trans _ _ h1 h2=>exact h1.trans h2
structure Canon (l:List TBucket):Prop where
 up:l.Pairwise (fun a b=>a.f0<b.f0)
 pos:∀ b∈l,0<b.f1
theorem Canon.nn {l:List TBucket} (h:Canon l):Nn l:=fun b hb=>Int.le_of_lt (h.pos b hb)
theorem Canon.tail {x:TBucket} {l:List TBucket} (h:Canon (x::l)):Canon l:=⟨(List.pairwise_cons.1 h.up).2,fun b hb=>h.pos b (by simp[hb])⟩
theorem Canon.tot_head {x:TBucket} {l:List TBucket} (h:Canon (x::l)):tot (x::l) x.f0=x.f1:=by
 rw[tot,tot_zero (fun b hb=>by have:=(List.pairwise_cons.1 h.up).1 b hb;omega)];simp
theorem Canon.tot_low {x:TBucket} {l:List TBucket} (h:Canon (x::l)) {i:Int} (hi:i<x.f0):tot (x::l) i=0 :=
 tot_zero (fun b hb=>by
  rcases List.mem_cons.1 hb with rfl | hb
  ·omega
  ·have:=(List.pairwise_cons.1 h.up).1 b hb;omega)
theorem canon_unique:∀ {a b:List TBucket},Canon a→Canon b→(∀ i,tot a i=tot b i)→a=b
 | [],[],_,_,_=>rfl
 | [],y::b,_,hb,h=>by
  have h1:=h y.f0
  rw[hb.tot_head] at h1
  have:=hb.pos y (by simp)
  simp[tot] at h1;omega
 | x::a,[],ha,_,h=>by
  have h1:=h x.f0
  rw[ha.tot_head] at h1
  have:=ha.pos x (by simp)
  simp[tot] at h1;omega
 | x::a,y::b,ha,hb,h=>by
  have hx:=ha.pos x (by simp)
  have hy:=hb.pos y (by simp)
  have e0:x.f0=y.f0:=by
   by_cases h1:x.f0<y.f0
   ·have:=h x.f0;rw[ha.tot_head,hb.tot_low h1] at this;omega
   ·by_cases h2:y.f0<x.f0
    ·have:=h y.f0;rw[hb.tot_head,ha.tot_low h2] at this;omega
    ·omega
  have e1:x.f1=y.f1:=by
   have:=h x.f0
   rw[ha.tot_head,e0,hb.tot_head] at this;exact this
  have e:x=y:=by cases x;cases y;simp_all
  subst e
  rw[canon_unique ha.tail hb.tail (fun i=>by have:=h i;simp only[tot] at this;omega)]
def bLt (a b:TBucket):Bool:=decide (a.f0<b.f0)
theorem bLt_swo:SWO bLt:=⟨fun a b h=>by simp[bLt] at *;omega,fun a b c h1 h2=>by simp[bLt] at *;omega⟩
theorem bCmp:Cmp f_hist_tidy_1.f bLt:=fun a b=>by
 refine⟨_,by unfold f_hist_tidy_1.f;rw[compare_int,sb],?_⟩
 simp only[bLt]
 by_cases h1:a.f0<b.f0
 ·simp[h1]
 ·by_cases h2:b.f0<a.f0<;>simp[h1,h2]
theorem sort_inst:f_slices_SortStableFunc_api_Bucket_hist_tidy_1.f=GS.SortStable.f f_hist_tidy_1.f:=by kernel_rfl
theorem clone_inst (l:List TBucket) (h:l.length<1000000000):f_slices_Clone_api_Bucket.f l=some l:=by
 unfold f_slices_Clone_api_Bucket.f
 rw[chkB (by simp;omega)]
theorem snoc_at {α:Type} (l:List α) (x:α) (h:l.length<1000000000000):at? (l++[x]) (IntKind.i64.wrap (((l++[x]).length:Int)-1))=some x:=by
 rw[List.length_append,List.length_singleton,wrap64 (by omega) (by omega)]
 exact at_mid (pre:=l) (suf:=[]) rfl (by omega)
theorem snoc_set {α:Type} (l:List α) (x y:α) (h:l.length<1000000000000):(l++[x]).set (Int.toNat (IntKind.i64.wrap (((l++[x]).length:Int)-1))) y=l++[y]:=by
 rw[List.length_append,List.length_singleton,wrap64 (by omega) (by omega),show(((l.length+1:Nat):Int)-1).toNat=l.length by omega]
 simp
structure TidyI (pre out:List TBucket):Prop where
 canon:Canon out
 seen:∀ o∈out,∃ p∈pre,p.f0=o.f0
 tots:∀ i,tot out i=tot pre i
 u64:∀ o∈out,U64 o.f1
 len:out.length≤pre.length
theorem tidy_l0 (l:List TBucket) (hl:l.length<1000000000) (hU:∀ b∈l,U64 b.f1) (hs:l.Pairwise (fun a b=>a.f0≤b.f0)):∀ (suf pre out:List TBucket) (i:Int),l=pre++suf→i=(pre.length:Int)→TidyI pre out →
  (∃ out',f_hist_tidy.l0 l out i=some (.inr out')∧TidyI l out')∨(f_hist_tidy.l0 l out i=some (.inl ([],5))∧∃ i,18446744073709551616≤tot l i):=by
 intro suf
 induction suf with
 | nil =>
  intro pre out i h1 hi hI
  rw[List.append_nil] at h1
  subst h1
  rw[f_hist_tidy.l0,if_neg (by simp[hi])]
  exact .inl ⟨out,rfl,hI⟩
 | cons b suf ih =>
  intro pre out i h1 hi hI
  have hb:=hU b (by rw[h1];simp)
  have hlen:l.length=pre.length+(suf.length+1):=by rw[h1];simp
  have holen:out.length≤pre.length:=hI.len
  have hle:∀ p∈pre,p.f0≤b.f0:=fun p hp=>by
   rw[h1] at hs;exact(List.pairwise_append.1 hs).2.2 p hp b (by simp)
  have e1:l=(pre++[b])++suf:=by simp[h1]
  have e2:i+1=((pre++[b]).length:Int):=by simp[hi]
  rw[f_hist_tidy.l0,if_pos (by rw[h1];simp[hi];omega),at_mid h1 hi,sb,wrap64 (n:=i+1) (by omega) (by omega)]
  by_cases h0:b.f1=0
  ·rw[if_pos (by simpa using h0),sb]
   simp only[]
   exact ih (pre++[b]) out (i+1) e1 e2 ⟨hI.canon,fun o ho=>let ⟨p,hp,e⟩:=hI.seen o ho;⟨p,by simp[hp],e⟩,fun i=>by rw[hI.tots,tot_append,tot_one,h0];simp,hI.u64,by simp;omega⟩
  rw[if_neg (by simpa using h0)]
  have hnew:(∀ o∈out,o.f0<b.f0)→TidyI (pre++[b]) (out++[b]):=fun hlt =>
   ⟨⟨List.pairwise_append.2 ⟨hI.canon.up, List.pairwise_singleton _ _, fun o ho y hy => by simp at hy; subst hy; exact hlt o ho⟩, fun o ho => by
     rcases List.mem_append.1 ho with ho | ho
     ·exact hI.canon.pos o ho
     ·simp at ho;subst ho;omega⟩,
    fun o ho=>by
     rcases List.mem_append.1 ho with ho | ho
     ·obtain⟨p,hp,e⟩:=hI.seen o ho;exact⟨p,by simp[hp],e⟩
     ·simp at ho;subst ho;exact⟨o,by simp,rfl⟩,
    fun i=>by rw[tot_append,tot_append,hI.tots],
    fun o ho=>by
     rcases List.mem_append.1 ho with ho | ho
     ·exact hI.u64 o ho
     ·simp at ho;subst ho;exact hb,
    by simp;omega⟩
  have happ:∀ (hlt:∀ o∈out,o.f0<b.f0),(∃ out',f_hist_tidy.l0 l (out++[b]) (i+1)=some (.inr out')∧TidyI l out')∨(f_hist_tidy.l0 l (out++[b]) (i+1)=some (.inl ([],5))∧∃ i,18446744073709551616≤tot l i):=fun hlt =>
   ih (pre++[b]) (out++[b]) (i+1) e1 e2 (hnew hlt)
  have hroom:(out.length+[b].length)*16≤140737488355328:=by simp;omega
  rcases List.eq_nil_or_concat out with rfl | ⟨o',o,rfl⟩
  ·rw[if_neg (by simp),sb,if_neg (by simp),chkB hroom,sb]
   simp only[]
   exact happ (by simp)
  simp only[List.concat_eq_append] at *
  have ho':o'.length<1000000000000:=by simp at holen;omega
  rw[if_pos (by simp),snoc_at _ _ ho',sb,sb]
  obtain⟨p,hp,hpo⟩:=hI.seen o (by simp)
  have hob:o.f0≤b.f0:=hpo ▸ hle p hp
  have hup:=List.pairwise_append.1 hI.canon.up
  by_cases he:o.f0=b.f0
  ·rw[if_pos (by simpa using he),sb,num_add2 (hI.u64 o (by simp)) hb,sb]
   have ho1:=hI.u64 o (by simp)
   by_cases hov:o.f1+b.f1<18446744073709551616
   ·rw[if_pos hov,if_neg (by simp),sb,snoc_set _ _ _ ho']
    simp only[sb]
    refine ih (pre++[b]) (o'++[⟨o.f0,o.f1+b.f1⟩]) (i+1) e1 e2 ⟨⟨List.pairwise_append.2 ⟨hup.1,List.pairwise_singleton _ _,fun x hx y hy=>by simp at hy;subst hy;exact hup.2.2 x hx o (by simp)⟩,fun x hx => ?_⟩,fun x hx => ?_,fun i => ?_,fun x hx => ?_,by simp at holen ⊢;omega⟩
    ·rcases List.mem_append.1 hx with hx | hx
     ·exact hI.canon.pos x (by simp[hx])
     ·simp at hx;subst hx;have:=hI.canon.pos o (by simp);simp;omega
    ·rcases List.mem_append.1 hx with hx | hx
     ·obtain⟨p,hp,e⟩:=hI.seen x (by simp[hx]);exact⟨p,by simp[hp],e⟩
     ·simp at hx;subst hx;exact⟨b,by simp,he.symm⟩
    ·have:=hI.tots i
     rw[tot_append,tot_one] at this ⊢
     rw[tot_append,tot_one,← this]
     simp only
     rw[← he]
     split<;>omega
    ·rcases List.mem_append.1 hx with hx | hx
     ·exact hI.u64 x (by simp[hx])
     ·simp at hx;subst hx;exact⟨by simp;omega,hov⟩
   ·rw[if_neg hov,if_pos (by simp),sb]
    simp only[]
    refine .inr ⟨rfl,b.f0,?_⟩
    have h3:=hI.tots b.f0
    rw[tot_append,tot_one,if_pos he] at h3
    have h4:=tot_nonneg (l:=o') (fun x hx=>hI.canon.nn x (by simp[hx])) b.f0
    have h5:=tot_nonneg (l:=suf) (fun x hx=>(hU x (by rw[h1];simp[hx])).1) b.f0
    rw[h1,tot_append,tot,if_pos rfl];omega
  ·rw[if_neg (by simpa using he),chkB hroom,sb]
   simp only[]
   refine happ (fun x hx => ?_)
   rcases List.mem_append.1 hx with hx | hx
   ·have:=hup.2.2 x hx o (by simp);omega
   ·simp at hx;subst hx;omega
theorem tidy_spec (l:List TBucket) (hl:l.length<100000000) (hU:∀ b∈l,U64 b.f1) :
  (∃ out,f_hist_tidy.f l=some (out,0)∧Canon out∧(∀ i,tot out i=tot l i)∧(∀ b∈out,U64 b.f1)∧(∀ b∈out,∃ p∈l,p.f0=b.f0)∧out.length≤l.length) ∨
  (f_hist_tidy.f l=some ([],5)∧∃ i,18446744073709551616≤tot l i):=by
 unfold f_hist_tidy.f
 rw[clone_inst l (by omega),sb,sort_inst,GS.sorts bCmp bLt_swo l (by omega),sb]
 have hp:=S_perm (lt:=bLt) l
 have hs:(GS.S bLt l).Pairwise (fun a b=>a.f0≤b.f0):=(S_sorted bLt_swo l).imp (fun {a b} h=>by simp[bLt] at h;exact h)
 rcases tidy_l0 (GS.S bLt l) (by rw[S_len];omega) (fun b hb=>hU b (hp.mem_iff.1 hb)) hs (GS.S bLt l) [] [] 0 rfl rfl ⟨⟨List.Pairwise.nil,by simp⟩,by simp,fun _=>rfl,by simp,by simp⟩ with ⟨out,e,h⟩ | ⟨e,i,h⟩
 ·rw[e]
  exact .inl ⟨out,rfl,h.canon,fun i=>(h.tots i).trans (tot_perm hp i),h.u64,fun b hb=>let ⟨p,hp',e⟩:=h.seen b hb;⟨p,hp.mem_iff.1 hp',e⟩,by have:=h.len;rw[S_len] at this;exact this⟩
 ·rw[e]
  exact .inr ⟨rfl,i,by rw[← tot_perm hp i];exact h⟩
end Go.Proofs.Ytfkppdcfgmgllaa.PvGD3
set_option linter.unusedVariables false
set_option linter.unusedSimpArgs false
namespace Go.Proofs.Ytfkppdcfgmgllaa.PvGD3
open Go Go.Pv Go.Pv.GS
def cnt (l:List TBucket):Int:=(l.map (·.f1)).sum
theorem cnt_nonneg {l:List TBucket} (h:Nn l):0≤cnt l:=isum_nonneg (fun x hx=>by
 obtain⟨b,hb,rfl⟩:=List.mem_map.1 hx;exact h b hb)
theorem cnt_cons (b:TBucket) (l:List TBucket):cnt (b::l)=b.f1+cnt l:=by simp[cnt]
theorem cnt_append (a b:List TBucket):cnt (a++b)=cnt a+cnt b:=by simp[cnt]
theorem total_l1 (a0:List (List TBucket)) (x769:Int) (l:List TBucket) (hl:l.length<1000000000):∀ (suf pre:List TBucket) (acc i:Int),l=pre++suf→i=(pre.length:Int)→U64 acc→(∀ b∈suf,U64 b.f1) →
  f_hist_total.l1 a0 l x769 acc i=some (if acc+cnt suf<18446744073709551616 then .inr (acc+cnt suf) else .inl (0,5)):=by
 intro suf
 induction suf with
 | nil =>
  intro pre acc i h1 hi ha hs
  subst h1
  rw[f_hist_total.l1,if_neg (by simp[hi])]
  simp[cnt,ha.2]
 | cons x suf ih =>
  intro pre acc i h1 hi ha hs
  have hx:=hs x (by simp)
  have hs':∀ y∈suf,U64 y.f1:=fun y hy=>hs y (by simp[hy])
  have hnn:0≤cnt suf:=cnt_nonneg (fun y hy=>(hs' y hy).1)
  have hlen:(l.length:Int)=pre.length+(suf.length+1):=by rw[h1];simp
  rw[f_hist_total.l1,if_pos (by simp;omega),at_mid h1 hi,sb,num_add2 ha hx,sb,wrap64 (by omega) (by omega),cnt_cons]
  by_cases hov:acc+x.f1<18446744073709551616
  ·rw[if_pos hov,if_neg (by simp),ih (pre++[x]) (acc+x.f1) (i+1) (by simp[h1]) (by simp;omega) ⟨by omega,hov⟩ hs',Int.add_assoc]
  ·rw[if_neg hov,if_pos (by simp),if_neg (by omega)]
theorem total_l0 (a0:List (List TBucket)) (ha0:a0.length<1000000000):∀ (suf pre:List (List TBucket)) (acc i:Int),a0=pre++suf→i=(pre.length:Int)→U64 acc→(∀ l∈suf,l.length<1000000000∧∀ b∈l,U64 b.f1) →
  f_hist_total.l0 a0 acc i=some (if acc+(suf.map cnt).sum<18446744073709551616 then .inr (acc+(suf.map cnt).sum) else .inl (0,5)):=by
 intro suf
 induction suf with
 | nil =>
  intro pre acc i h1 hi ha hs
  subst h1
  rw[f_hist_total.l0,if_neg (by simp[hi])]
  simp[ha.2]
 | cons x suf ih =>
  intro pre acc i h1 hi ha hs
  have hx:=hs x (by simp)
  have hs':∀ l∈suf,l.length<1000000000∧∀ b∈l,U64 b.f1:=fun y hy=>hs y (by simp[hy])
  have hx0:0≤cnt x:=cnt_nonneg (fun y hy=>(hx.2 y hy).1)
  have hnn:0≤(suf.map cnt).sum:=isum_nonneg (fun y hy=>by
   obtain⟨l,hl,rfl⟩:=List.mem_map.1 hy;exact cnt_nonneg (fun y hy=>((hs' l hl).2 y hy).1))
  have hlen:(a0.length:Int)=pre.length+(suf.length+1):=by rw[h1];simp
  rw[f_hist_total.l0,if_pos (by simp;omega),at_mid h1 hi,sb,total_l1 a0 i x hx.1 x [] acc 0 rfl rfl ha hx.2,sb,wrap64 (by omega) (by omega),List.map_cons,List.sum_cons]
  by_cases hov:acc+cnt x<18446744073709551616
  ·rw[if_pos hov]
   simp only[]
   rw[ih (pre++[x]) (acc+cnt x) (i+1) (by simp[h1]) (by simp;omega) ⟨by omega,hov⟩ hs',Int.add_assoc]
  ·rw[if_neg hov,if_neg (by omega)]
theorem total3 (p n:List TBucket) (z:Int) (hp:p.length<1000000000) (hn:n.length<1000000000) (hpU:∀ b∈p,U64 b.f1) (hnU:∀ b∈n,U64 b.f1) (hz:U64 z) :
  f_hist_total.f [p,n,[(⟨0,z⟩:TBucket)]]=some (if cnt p+cnt n+z<18446744073709551616 then(cnt p+cnt n+z,0) else(0,5)):=by
 unfold f_hist_total.f
 rw[total_l0 [p,n,[(⟨0,z⟩:TBucket)]] (by simp) [p,n,[(⟨0,z⟩:TBucket)]] [] 0 0 rfl rfl (by omega) (by
  intro l hl
  simp only[List.mem_cons,List.not_mem_nil,or_false] at hl
  rcases hl with rfl | rfl | rfl
  ·exact⟨hp,hpU⟩
  ·exact⟨hn,hnU⟩
  ·exact⟨by simp,by simp;exact hz⟩),sb]
 have e:0+(([p,n,[(⟨0,z⟩:TBucket)]]:List (List TBucket)).map cnt).sum=cnt p+cnt n+z:=by simp[cnt];omega
 rw[e]
 by_cases h:cnt p+cnt n+z<18446744073709551616
 ·rw[if_pos h,if_pos h]
 ·rw[if_neg h,if_neg h]
theorem right_eq (s:Int):f_bound_Right.f s=some (decide (-4≤s)&&decide (s≤8)):=by
 unfold f_bound_Right.f
 rw[ifand];rfl
def RightS (s:Int):Prop:=-4≤s∧s≤8
instance (s:Int):Decidable (RightS s):=inferInstanceAs (Decidable (_∧_))
theorem right_T {s:Int} (h:RightS s):f_bound_Right.f s=some true:=by rw[right_eq];simp[h.1,h.2]
theorem right_F {s:Int} (h:¬ RightS s):f_bound_Right.f s=some false:=by rw[right_eq];simp[RightS] at h ⊢;omega
def stp (s:Int):Int:=2 ^ (8-s).toNat
theorem stp_pos (s:Int):0<stp s:=by unfold stp;exact Int.pow_pos (by omega)
theorem stp_le {s:Int} (h:RightS s):stp s≤4096:=by
 have h1:=h.1
 have h2:=h.2
 have:s = -4∨s = -3∨s = -2∨s = -1∨s=0∨s=1∨s=2∨s=3∨s=4∨s=5∨s=6∨s=7∨s=8:=by omega
 rcases this with rfl | rfl | rfl | rfl | rfl | rfl | rfl | rfl | rfl | rfl | rfl | rfl | rfl<;>decide
theorem shift_eq {s:Int} (h:RightS s):min (Int.toNat (IntKind.u64.wrap (IntKind.i64.wrap ((8:Int)-s)))) 64=(8-s).toNat:=by
 have h1:=h.1
 have h2:=h.2
 rw[wrap64 (by omega) (by omega),wrapU (by omega) (by omega)];omega
theorem most_T {s:Int} (h:RightS s):f_bound_Most.f s=some (262144 / stp s):=by
 unfold f_bound_Most.f f_bound_shift.f
 rw[right_T h,sb,if_neg (by simp),sb,chkB (u64_wrap _).1,shift_eq h,Int.fdiv_eq_ediv_of_nonneg _ (by exact Int.le_of_lt (stp_pos s))]
 rfl
theorem units_T {s i:Int} (h:RightS s) (hi : -1000000000000<i∧i<1000000000000):f_bound_Units.f s i=some (i*stp s):=by
 unfold f_bound_Units.f f_bound_shift.f
 rw[right_T h,sb,if_neg (by simp),sb,chkB (u64_wrap _).1,shift_eq h]
 have h1:=stp_pos s
 have h2:=stp_le h
 have h3:i*stp s≤1000000000000*4096:=by
  by_cases h0:0≤i
  ·exact Int.mul_le_mul (by omega) h2 (by omega) (by omega)
  ·have:i*stp s≤0:=Int.mul_nonpos_of_nonpos_of_nonneg (by omega) (by omega);omega
 have h4 : -(1000000000000*4096)≤i*stp s:=by
  by_cases h0:0≤i
  ·have:0≤i*stp s:=Int.mul_nonneg h0 (by omega);omega
  ·have : -i*stp s≤1000000000000*4096:=Int.mul_le_mul (by omega) h2 (by omega) (by omega)
   rw[Int.neg_mul] at this;omega
 show some (IntKind.i64.wrap (i*stp s))=_
 rw[wrap64 (by omega) (by omega)]
theorem check_l0_eq (h:THist):f_hist_Check.l0 h 0=((f_hist_buckets.f h h.f6)>>=fun t=>if(t != (0:Int))=true then some (.inl t) else(f_hist_buckets.f h h.f7)>>=fun t=>if(t != (0:Int))=true then some (.inl t) else some (.inr ())):=by
 have w1:IntKind.i64.wrap (0+1)=1:=by decide
 have w2:IntKind.i64.wrap (1+1)=2:=by decide
 rw[f_hist_Check.l0,if_pos (by decide),chkB (by omega),if_pos (by decide),sb,w1]
 congr 1
 funext t
 split
 ·rfl
 ·rw[f_hist_Check.l0,if_pos (by decide),chkB (by omega),if_neg (by decide),sb,w2]
  congr 1
  funext t
  split
  ·rfl
  ·rw[f_hist_Check.l0,if_neg (by decide)]
structure Fits (h:THist):Prop where
 kind:I64 h.f0
 schema:I64 h.f1
 zeroAt:I64 h.f2
 zero:U64 h.f3
 count:U64 h.f4
 sum:I64 h.f5
 pos:∀ b∈h.f6,I64 b.f0∧U64 b.f1
 neg:∀ b∈h.f7,I64 b.f0∧U64 b.f1
theorem fits_of {h:THist} (r:RHist h):Fits h:=⟨r.r0,r.r1,r.r2,r.r3,r.r4,r.r5,fun b hb=>let q:=r.r6.2 b hb;⟨q.r0,q.r1⟩,fun b hb=>let q:=r.r7.2 b hb;⟨q.r0,q.r1⟩⟩
end Go.Proofs.Ytfkppdcfgmgllaa.PvGD3
set_option linter.unusedVariables false
set_option linter.unusedSimpArgs false
namespace Go.Proofs.Ytfkppdcfgmgllaa.PvGD3
open Go Go.Pv Go.Pv.GS
theorem stp_dvd {s:Int} (h:RightS s):262144 / stp s*stp s=262144:=by
 have h1:=h.1
 have h2:=h.2
 have:s = -4∨s = -3∨s = -2∨s = -1∨s=0∨s=1∨s=2∨s=3∨s=4∨s=5∨s=6∨s=7∨s=8:=by omega
 rcases this with rfl | rfl | rfl | rfl | rfl | rfl | rfl | rfl | rfl | rfl | rfl | rfl | rfl<;>decide
def InS (s i:Int):Prop:=-262144<i*stp s∧i*stp s≤262144
instance (s i:Int):Decidable (InS s i):=inferInstanceAs (Decidable (_∧_))
theorem inS_iff {s i:Int} (h:RightS s):InS s i ↔ -(262144 / stp s)+1≤i∧i≤262144 / stp s:=by
 have hp:=stp_pos s
 have hd:=stp_dvd h
 unfold InS
 generalize 262144 / stp s=q at *
 generalize stp s=st at *
 constructor
 ·rintro⟨h1,h2⟩
  constructor
  ·have : -q*st<i*st:=by rw[Int.neg_mul];omega
   have:=Int.lt_of_mul_lt_mul_right this (Int.le_of_lt hp);omega
  ·have:i*st≤q*st:=by omega
   exact Int.le_of_mul_le_mul_right this hp
 ·rintro⟨h1,h2⟩
  constructor
  ·have:=Int.mul_lt_mul_of_pos_right (show -q<i by omega) hp
   rw[Int.neg_mul] at this;omega
  ·have:=Int.mul_le_mul_of_nonneg_right h2 (Int.le_of_lt hp);omega
theorem inS_small {s i:Int} (hi:InS s i) : -262144<i∧i≤262144:=by
 have hp:=stp_pos s
 obtain⟨h1,h2⟩:=hi
 constructor
 ·by_cases h:i ≤ -262144
  ·have:=Int.mul_le_mul_of_nonneg_right h (Int.le_of_lt hp)
   have h3 : -262144*stp s ≤ -262144*1:=by
    have:=Int.mul_le_mul_of_nonneg_left (show 1≤stp s by omega) (show(0:Int)≤262144 by omega)
    omega
   omega
  ·omega
 ·by_cases h:262144<i
  ·have:=Int.mul_le_mul_of_nonneg_right (show 262145≤i by omega) (Int.le_of_lt hp)
   have h3:=Int.mul_le_mul_of_nonneg_left (show 1≤stp s by omega) (show(0:Int)≤262145 by omega)
   omega
  ·omega
theorem in_T {s i:Int} (h:RightS s):f_bound_In.f s i=some (decide (InS s i)):=by
 have hp:=stp_pos s
 have hq:0≤262144 / stp s∧262144 / stp s≤262144:=⟨Int.ediv_nonneg (by omega) (by omega),Int.ediv_le_self _ (by omega)⟩
 unfold f_bound_In.f f_bound_Least.f
 rw[right_T h,most_T h]
 simp only[sb,if_pos]
 rw[wrap64 (n:=0-_) (by omega) (by omega),wrap64 (by omega) (by omega),ifand,sb]
 congr 1
 rw[← Bool.decide_and,decide_eq_decide,inS_iff h]
 constructor<;>intro h<;>constructor<;>omega
theorem low_T {s i:Int} (h:RightS s) (hi:InS s i):f_bound_Low.f s i=some ((i-1)*stp s):=by
 have:=inS_small hi
 unfold f_bound_Low.f
 rw[wrap64 (by omega) (by omega),units_T h (by omega)];rfl
theorem units_in {s i:Int} (h:RightS s) (hi:InS s i):f_bound_Units.f s i=some (i*stp s):=by
 have:=inS_small hi
 exact units_T h (by omega)
theorem ref_right (s:Int):f_pluvialref04_Right.f s=some (decide (RightS s)):=by
 unfold f_pluvialref04_Right.f
 rw[ifand,← Bool.decide_and];rfl
theorem ref_step_l0 (s:Int):∀ (n:Nat) (x i:Int),i≤8→8-i=(n:Int) → -4≤i→0≤x→x*2 ^ n≤4096→f_pluvialref04_step.l0 x i=some (x*2 ^ n):=by
 intro n
 induction n with
 | zero=>intro x i h1 h2 h3 h4 h5;rw[f_pluvialref04_step.l0,if_neg (by simp;omega)];simp
 | succ n ih =>
  intro x i h1 h2 h3 h4 h5
  have e:x*2 ^ (n+1)=x*2*2 ^ n:=by rw[Int.pow_succ,Int.mul_assoc,Int.mul_comm 2]
  have hp:(0:Int)<2 ^ n:=Int.pow_pos (by omega)
  have hle:x*2≤4096:=by
   have:=Int.mul_le_mul_of_nonneg_left (show(1:Int)≤2 ^ n by omega) (show 0≤x*2 by omega)
   omega
  rw[f_pluvialref04_step.l0,if_pos (by simp;omega),wrap64 (n:=x*2) (by omega) (by omega),wrap64 (n:=i+1) (by omega) (by omega),ih (x*2) (i+1) (by omega) (by omega) (by omega) (by omega) (by omega),e]
theorem ref_step {s:Int} (h:RightS s):f_pluvialref04_step.f s=some (stp s):=by
 unfold f_pluvialref04_step.f
 have h1:=h.1
 have h2:=h.2
 rw[ref_step_l0 s (8-s).toNat 1 s h2 (by omega) h1 (by omega) (by rw[Int.one_mul];exact stp_le h)]
 simp[stp]
theorem ref_units {s i:Int} (h:RightS s) (hi : -1000000000000<i∧i<1000000000000):f_pluvialref04_Units.f s i=some (i*stp s):=by
 unfold f_pluvialref04_Units.f
 rw[ref_right,sb,if_neg (by simp[h]),ref_step h,sb]
 have h1:=stp_pos s
 have h2:=stp_le h
 have h3:i*stp s≤1000000000000*4096:=by
  by_cases h0:0≤i
  ·exact Int.mul_le_mul (by omega) h2 (by omega) (by omega)
  ·have:i*stp s≤0:=Int.mul_nonpos_of_nonpos_of_nonneg (by omega) (by omega);omega
 have h4 : -(1000000000000*4096)≤i*stp s:=by
  by_cases h0:0≤i
  ·have:0≤i*stp s:=Int.mul_nonneg h0 (by omega);omega
  ·have : -i*stp s≤1000000000000*4096:=Int.mul_le_mul (by omega) h2 (by omega) (by omega)
   rw[Int.neg_mul] at this;omega
 rw[wrap64 (by omega) (by omega)]
theorem ref_in {s i:Int} (h:RightS s) (hi:I64 i):f_pluvialref04_In.f s i=some (decide (InS s i)):=by
 unfold f_pluvialref04_In.f
 rw[ref_right,sb,if_pos (by simp[h])]
 by_cases h1:i > -262144
 ·rw[if_pos (by simpa using h1)]
  by_cases h2:i≤262144
  ·rw[if_pos (by simpa using h2),ref_units h (by omega),sb]
   by_cases h3:i*stp s > -262144
   ·rw[if_pos (by simpa using h3),sb,sb]
    congr 1
    rw[decide_eq_decide]
    exact⟨fun h=>⟨h3,h⟩,fun h=>h.2⟩
   ·rw[if_neg (by simpa using h3),sb]
    have:¬ InS s i:=fun h=>h3 h.1
    simp[this]
  ·rw[if_neg (by simpa using h2),sb]
   have:¬ InS s i:=fun h=>by have:=inS_small h;omega
   simp[this]
 ·rw[if_neg (by simpa using h1),sb]
  have:¬ InS s i:=fun h=>by have:=inS_small h;omega
  simp[this]
end Go.Proofs.Ytfkppdcfgmgllaa.PvGD3
set_option linter.unusedVariables false
set_option linter.unusedSimpArgs false
namespace Go.Proofs.Ytfkppdcfgmgllaa.PvGD3
open Go Go.Pv Go.Pv.GS
structure BOk (s z:Int) (b:TBucket):Prop where
 ins:InS s b.f0
 pos:0<b.f1
 low:z≤(b.f0-1)*stp s
def Up:Option Int→List TBucket→Prop
 | _,[]=>True
 | p,b::l=>(∀ q,p=some q→q<b.f0)∧Up (some b.f0) l
theorem up_iff:∀ (l:List TBucket) (p:Option Int),Up p l↔(∀ q,p=some q→∀ b∈l,q<b.f0)∧l.Pairwise (fun a b=>a.f0<b.f0)
 | [],p=>by simp[Up]
 | x::l,p=>by
  rw[Up,up_iff l,List.pairwise_cons]
  constructor
  ·rintro⟨h1,h2,h3⟩
   refine⟨fun q hq b hb => ?_,fun b hb=>h2 _ rfl b hb,h3⟩
   have h4:=h1 q hq
   rcases List.mem_cons.1 hb with rfl | hb
   ·exact h4
   ·have:=h2 _ rfl b hb;omega
  ·rintro⟨h1,h2,h3⟩
   exact⟨fun q hq=>h1 q hq x (by simp),fun q hq b hb=>by cases hq;exact h2 b hb,h3⟩
structure Side (s z:Int) (l:List TBucket):Prop where
 len:l.length≤512
 ok:∀ b∈l,BOk s z b
 up:l.Pairwise (fun a b=>a.f0<b.f0)
theorem Side.canon {s z:Int} {l:List TBucket} (h:Side s z l):Canon l:=⟨h.up,fun b hb=>(h.ok b hb).pos⟩
structure Valid (h:THist):Prop where
 kind:h.f0=0∨h.f0=1
 schema:RightS h.f1
 zero:h.f2 = -524288∨(-262144<h.f2∧h.f2≤262144)
 pos:Side h.f1 h.f2 h.f6
 neg:Side h.f1 h.f2 h.f7
 total:cnt h.f6+cnt h.f7+h.f3<18446744073709551616
 count:h.f4=cnt h.f6+cnt h.f7+h.f3
theorem last_pre {l pre:List TBucket} {x:TBucket} {suf:List TBucket} {i:Int} (h1:l=pre++x::suf) (hi:i=(pre.length:Int)) (h0:0<i) (hl:l.length<1000000000) :
  ∃ q,(pre.getLast?).map (·.f0)=some q∧∃ y,at? l (IntKind.i64.wrap (i-1))=some y∧y.f0=q:=by
 rcases List.eq_nil_or_concat pre with rfl | ⟨P,p,rfl⟩
 ·simp at hi;omega
 ·simp only[List.concat_eq_append] at *
  have hlen:l.length=P.length+1+(suf.length+1):=by rw[h1];simp;omega
  have hi2:i=(P.length:Int)+1:=by rw[hi];simp
  rw[wrap64 (by omega) (by omega)]
  exact⟨p.f0,by simp,p,at_mid (pre:=P) (suf:=x::suf) (by simp[h1]) (by omega),rfl⟩
theorem no_pre {pre:List TBucket} {i:Int} (hi:i=(pre.length:Int)) (h0:¬ 0<i):(pre.getLast?).map (·.f0)=none:=by
 have:pre=[]:=List.length_eq_zero_iff.1 (by omega)
 subst this;rfl
theorem buckets_l0 (h:THist) (l:List TBucket) (hs:RightS h.f1) (hl:l.length<1000000000):∀ (suf pre:List TBucket) (i:Int),l=pre++suf→i=(pre.length:Int)→(∀ b∈suf,U64 b.f1) →
  ∃ r,f_hist_buckets.l0 h l i=some r∧(∀ c,r = .inl c→c≠0)∧(r = .inr ()↔(∀ b∈suf,BOk h.f1 h.f2 b)∧Up ((pre.getLast?).map (·.f0)) suf):=by
 intro suf
 induction suf with
 | nil =>
  intro pre i h1 hi _
  subst h1
  rw[f_hist_buckets.l0,if_neg (by simp[hi])]
  exact⟨_,rfl,by simp,by simp[Up]⟩
 | cons x suf ih =>
  intro pre i h1 hi hU
  have hx:=hU x (by simp)
  have hlen:(l.length:Int)=pre.length+(suf.length+1):=by rw[h1];simp
  rw[f_hist_buckets.l0,if_pos (by simp;omega),at_mid h1 hi,sb,in_T hs,sb]
  by_cases c1:InS h.f1 x.f0
  case neg =>
   rw[if_pos (by simp[c1])]
   exact⟨_,rfl,by simp,by simp;intro h;exact absurd h.ins c1⟩
  rw[if_neg (by simp[c1])]
  have hprev:∃ c:Bool,((if(decide (i>(0:Int)))=true then((at? l (IntKind.i64.wrap (i-(1:Int))))>>=fun b922=>some (decide (b922.f0≥x.f0))) else(some false)):Option (Bool))=some c∧(c=false↔∀ q,(pre.getLast?).map (·.f0)=some q→q<x.f0):=by
   by_cases h0:0<i
   ·obtain⟨q,e1,y,e2,e3⟩:=last_pre h1 hi h0 hl
    rw[if_pos (by simpa using h0),e2,sb]
    exact⟨_,rfl,by rw[e1,e3];simp⟩
   ·rw[if_neg (by simpa using h0)]
    exact⟨_,rfl,by rw[no_pre hi h0];simp⟩
  obtain⟨c,ec,hc⟩:=hprev
  rw[ec,sb,low_T hs c1]
  cases c with
  | true =>
   rw[if_pos rfl]
   refine⟨_,rfl,by simp,by simp;intro _ _ h2;exact absurd (hc.2 h2.1) (by simp)⟩
  | false =>
   rw[if_neg (by simp)]
   by_cases c2:x.f1=0
   ·rw[if_pos (by simpa using c2)]
    exact⟨_,rfl,by simp,by simp;intro h;have:=h.pos;omega⟩
   rw[if_neg (by simpa using c2),sb]
   by_cases c3:(x.f0-1)*stp h.f1<h.f2
   ·rw[if_pos (by simpa using c3)]
    exact⟨_,rfl,by simp,by simp;intro h;have:=h.low;omega⟩
   rw[if_neg (by simpa using c3),wrap64 (n:=i+1) (by omega) (by omega)]
   obtain⟨r,e,e1,e2⟩:=ih (pre++[x]) (i+1) (by simp[h1]) (by simp;omega) (fun b hb=>hU b (by simp[hb]))
   refine⟨r,e,e1,?_⟩
   rw[e2]
   simp only[List.getLast?_append,List.getLast?_singleton,Option.some_or,Option.map_some,Up,List.forall_mem_cons]
   have hb:BOk h.f1 h.f2 x:=⟨c1,by omega,by omega⟩
   constructor
   ·rintro⟨a,b⟩;exact⟨⟨hb,a⟩,hc.1 rfl,b⟩
   ·rintro⟨⟨_,a⟩,_,b⟩;exact⟨a,b⟩
theorem buckets_iff (h:THist) (l:List TBucket) (hs:RightS h.f1) (hl:l.length<1000000000) (hU:∀ b∈l,U64 b.f1):∃ r,f_hist_buckets.f h l=some r∧(r=0↔Side h.f1 h.f2 l):=by
 unfold f_hist_buckets.f
 by_cases h0:l.length>512
 ·rw[if_pos (by simp;omega)]
  exact⟨_,rfl,by simp;intro h;have:=h.len;omega⟩
 ·rw[if_neg (by simp;omega)]
  obtain⟨r,e,e1,e2⟩:=buckets_l0 h l hs hl l [] 0 rfl rfl hU
  rw[e,sb]
  cases r with
  | inl c =>
   refine⟨c,rfl,?_⟩
   constructor
   ·intro h;exact absurd h (e1 c rfl)
   ·intro h
    exact absurd (e2.2 ⟨h.ok,(up_iff l _).2 ⟨by simp,h.up⟩⟩) (by simp)
  | inr u =>
   refine⟨0,rfl,?_⟩
   obtain⟨h1,h2⟩:=e2.1 rfl
   exact⟨fun _=>⟨by omega,h1,((up_iff l _).1 h2).2⟩,fun _=>rfl⟩
theorem check_iff (h:THist) (hf:Fits h) (hp:h.f6.length<1000000000) (hn:h.f7.length<1000000000):∃ r,f_hist_Check.f h=some r∧(r=0↔Valid h):=by
 unfold f_hist_Check.f
 have hk:((if(h.f0 != (0:Int))=true then(some (h.f0 != (1:Int))) else(some false)):Option (Bool))=some (!decide (h.f0=0∨h.f0=1)):=by
  by_cases h1:h.f0=0
  ·simp[h1]
  ·by_cases h2:h.f0=1<;>simp[h1,h2]
 rw[hk,sb]
 by_cases c1:h.f0=0∨h.f0=1
 case neg=>rw[if_pos (by simpa using c1)];exact⟨_,rfl,by simp;intro h;exact c1 h.kind⟩
 rw[if_neg (by rw[decide_eq_true c1];decide)]
 by_cases c2:RightS h.f1
 case neg=>rw[right_F c2,sb,if_pos (by simp)];exact⟨_,rfl,by simp;intro h;exact c2 h.schema⟩
 rw[right_T c2,sb,if_neg (by simp)]
 have hz:((if(h.f2 != (-524288))=true then(if(decide (h.f2≤(-262144)))=true then(some true) else(some (decide (h.f2>(262144:Int))))) else(some false)):Option (Bool))=some (!decide (h.f2 = -524288∨(-262144<h.f2∧h.f2≤262144))):=by
  by_cases h1:h.f2 = -524288
  ·simp[h1]
  ·by_cases h2:h.f2 ≤ -262144
   ·simp[h1,h2]
   ·have h4 : -262144<h.f2:=by omega
    by_cases h3:h.f2≤262144
    ·simp[h1,h2,h3,h4]
    ·simp[h1,h2,h3,h4];omega
 rw[hz,sb]
 by_cases c3:h.f2 = -524288∨(-262144<h.f2∧h.f2≤262144)
 case neg=>rw[if_pos (by simp[c3])];exact⟨_,rfl,by simp;intro h;exact c3 h.zero⟩
 rw[if_neg (by simp[c3])]
 obtain⟨r1,e1,i1⟩:=buckets_iff h h.f6 c2 hp (fun b hb=>(hf.pos b hb).2)
 obtain⟨r2,e2,i2⟩:=buckets_iff h h.f7 c2 hn (fun b hb=>(hf.neg b hb).2)
 rw[check_l0_eq,e1,e2,sb,sb]
 by_cases d1:r1=0
 case neg=>rw[if_pos (by simpa using d1),sb];exact⟨_,rfl,⟨fun h=>absurd h d1,fun h=>absurd (i1.2 h.pos) d1⟩⟩
 rw[if_neg (by simpa using d1)]
 by_cases d2:r2=0
 case neg=>rw[if_pos (by simpa using d2),sb];exact⟨_,rfl,⟨fun h=>absurd h d2,fun h=>absurd (i2.2 h.neg) d2⟩⟩
 rw[if_neg (by simpa using d2),sb]
 simp only[]
 rw[total3 _ _ _ hp hn (fun b hb=>(hf.pos b hb).2) (fun b hb=>(hf.neg b hb).2) hf.zero,sb]
 by_cases c4:cnt h.f6+cnt h.f7+h.f3<18446744073709551616
 case neg=>rw[if_neg c4,if_pos (by simp)];exact⟨_,rfl,by simp;intro h;exact c4 h.total⟩
 rw[if_pos c4,if_neg (by simp)]
 by_cases c5:cnt h.f6+cnt h.f7+h.f3=h.f4
 ·rw[if_neg (by simpa using c5)]
  exact⟨0,rfl,fun _=>⟨c1,c2,c3,i1.1 d1,i2.1 d2,c4,c5.symm⟩,fun _=>rfl⟩
 ·rw[if_pos (by simpa using c5)]
  exact⟨_,rfl,by simp;intro h;exact c5 h.count.symm⟩
theorem check_T (h:THist) (hf:Fits h) (hv:Valid h):f_hist_Check.f h=some 0:=by
 have hl:=hv.pos.len
 have hl2:=hv.neg.len
 obtain⟨r,e,i⟩:=check_iff h hf (by omega) (by omega)
 rw[e,i.2 hv]
theorem ref_add_l0 (l:List Int) (hl:l.length<4611686018427387904):∀ (suf pre:List Int) (acc i:Int),l=pre++suf→i=(pre.length:Int)→U64 acc→(∀ x∈suf,U64 x) →
  f_pluvialref01_Add.l0 l acc i=some (if acc+suf.sum<18446744073709551616 then .inr (acc+suf.sum) else .inl (0,5)):=by
 intro suf
 induction suf with
 | nil =>
  intro pre acc i h1 hi ha hs
  subst h1
  rw[f_pluvialref01_Add.l0,if_neg (by simp[hi])]
  simp[ha.2]
 | cons x suf ih =>
  intro pre acc i h1 hi ha hs
  have hx:=hs x (by simp)
  have hs':∀ y∈suf,U64 y:=fun y hy=>hs y (by simp[hy])
  have hnn:0≤suf.sum:=isum_nonneg (fun y hy=>(hs' y hy).1)
  have hlen:(l.length:Int)=pre.length+(suf.length+1):=by rw[h1];simp
  rw[f_pluvialref01_Add.l0,if_pos (by rw[h1];simp[hi];omega),at_mid h1 hi,sb,wrapU (n:=18446744073709551615-acc) (by omega) (by omega)]
  by_cases hov:acc+x<18446744073709551616
  ·rw[if_neg (by simp;omega),wrap64 (by omega) (by omega),wrapU (by omega) (by omega)]
   rw[ih (pre++[x]) (acc+x) (i+1) (by simp[h1]) (by simp;omega) ⟨by omega,hov⟩ hs']
   rw[List.sum_cons,Int.add_assoc]
  ·rw[if_pos (by simp;omega),if_neg (by rw[List.sum_cons];omega)]
theorem ref_add (l:List Int) (hl:l.length<4611686018427387904) (h:∀ x∈l,U64 x) :
  f_pluvialref01_Add.f l=some (if l.sum<18446744073709551616 then(l.sum,0) else(0,5)):=by
 unfold f_pluvialref01_Add.f
 rw[ref_add_l0 l hl l [] 0 0 rfl rfl (by omega) h,sb,Int.zero_add]
 by_cases h:l.sum<18446744073709551616
 ·rw[if_pos h,if_pos h]
 ·rw[if_neg h,if_neg h]
theorem ref_check_l1 (h:THist) (x124:Int) (l:List TBucket) (hs:RightS h.f1) (hl:l.length<1000000):∀ (suf pre:List TBucket) (acc:List Int) (i:Int),l=pre++suf→i=(pre.length:Int)→acc.length+suf.length<10000000→(∀ b∈suf,I64 b.f0∧U64 b.f1) →
  ∃ r,f_pluvialref05_Check.l1 h x124 l acc i=some r∧(∀ c,r = .inl c→c≠0)∧((∃ a,r = .inr a)↔(∀ b∈suf,BOk h.f1 h.f2 b)∧Up ((pre.getLast?).map (·.f0)) suf)∧∀ a,r = .inr a→a=acc++suf.map (·.f1):=by
 intro suf
 induction suf with
 | nil =>
  intro pre acc i h1 hi _ _
  subst h1
  rw[f_pluvialref05_Check.l1,if_neg (by simp[hi])]
  exact⟨_,rfl,by simp,by simp[Up],by simp⟩
 | cons x suf ih =>
  intro pre acc i h1 hi ha hU
  have hx:=hU x (by simp)
  have hlen:(l.length:Int)=pre.length+(suf.length+1):=by rw[h1];simp
  simp only[List.length_cons] at ha
  rw[f_pluvialref05_Check.l1,if_pos (by simp;omega),at_mid h1 hi,sb,ref_in hs hx.1,sb]
  by_cases c1:InS h.f1 x.f0
  case neg =>
   rw[if_pos (by simp[c1])]
   exact⟨_,rfl,by simp,by simp;intro h;exact absurd h.ins c1,by simp⟩
  rw[if_neg (by simp[c1])]
  have hsm:=inS_small c1
  have hprev:∃ c:Bool,((if(decide (i>(0:Int)))=true then((at? l (IntKind.i64.wrap (i-(1:Int))))>>=fun b168=>some (decide (x.f0≤b168.f0))) else(some false)):Option (Bool))=some c∧(c=false↔∀ q,(pre.getLast?).map (·.f0)=some q→q<x.f0):=by
   by_cases h0:0<i
   ·obtain⟨q,e1,y,e2,e3⟩:=last_pre h1 hi h0 (by omega)
    rw[if_pos (by simpa using h0),e2,sb]
    exact⟨_,rfl,by rw[e1,e3];simp⟩
   ·rw[if_neg (by simpa using h0)]
    exact⟨_,rfl,by rw[no_pre hi h0];simp⟩
  obtain⟨c,ec,hc⟩:=hprev
  rw[ec,sb,wrap64 (n:=x.f0-1) (by omega) (by omega),ref_units hs (by omega)]
  cases c with
  | true =>
   rw[if_pos rfl]
   refine⟨_,rfl,by simp,by simp;intro _ _ h2;exact absurd (hc.2 h2.1) (by simp),by simp⟩
  | false =>
   rw[if_neg (by simp)]
   by_cases c2:x.f1=0
   ·rw[if_pos (by simpa using c2)]
    exact⟨_,rfl,by simp,by simp;intro h;have:=h.pos;omega,by simp⟩
   rw[if_neg (by simpa using c2),sb]
   by_cases c3:(x.f0-1)*stp h.f1<h.f2
   ·rw[if_pos (by simpa using c3)]
    exact⟨_,rfl,by simp,by simp;intro h;have:=h.low;omega,by simp⟩
   rw[if_neg (by simpa using c3),chkB (by simp;omega),wrap64 (n:=i+1) (by omega) (by omega)]
   obtain⟨r,e,e1,e2,e3⟩:=ih (pre++[x]) (acc++[x.f1]) (i+1) (by simp[h1]) (by simp;omega) (by simp;omega) (fun b hb=>hU b (by simp[hb]))
   refine⟨r,e,e1,?_,fun a ha=>by rw[e3 a ha];simp⟩
   rw[e2]
   simp only[List.getLast?_append,List.getLast?_singleton,Option.some_or,Option.map_some,Up,List.forall_mem_cons]
   have hb:BOk h.f1 h.f2 x:=⟨c1,by omega,by omega⟩
   constructor
   ·rintro⟨a,b⟩;exact⟨⟨hb,a⟩,hc.1 rfl,b⟩
   ·rintro⟨⟨_,a⟩,_,b⟩;exact⟨a,b⟩
theorem ref_check_side (h:THist) (x124:Int) (l:List TBucket) (acc:List Int) (hs:RightS h.f1) (hl:l.length<1000000000000000) (ha:acc.length<1000000) (hU:∀ b∈l,I64 b.f0∧U64 b.f1) :
  ∃ r:Int ⊕ List Int,(if(decide ((l.length:Int)>(512:Int)))=true then(some (.inl 9)) else(f_pluvialref05_Check.l1 h x124 l acc 0))=some r∧(∀ c,r = .inl c→c≠0)∧((∃ a,r = .inr a)↔Side h.f1 h.f2 l)∧∀ a,r = .inr a→a=acc++l.map (·.f1):=by
 by_cases h0:l.length>512
 ·rw[if_pos (by simp;omega)]
  exact⟨_,rfl,by simp,by simp;intro h;have:=h.len;omega,by simp⟩
 ·rw[if_neg (by simp;omega)]
  obtain⟨r,e,e1,e2,e3⟩:=ref_check_l1 h x124 l hs (by omega) l [] acc 0 rfl rfl (by omega) hU
  refine⟨r,e,e1,e2.trans ⟨fun⟨h1,h2⟩=>⟨by omega,h1,((up_iff l _).1 h2).2⟩,fun h=>⟨h.ok,(up_iff l _).2 ⟨by simp,h.up⟩⟩⟩,e3⟩
theorem ref_check_iff (h:THist) (hf:Fits h) (hp:h.f6.length<1000000000000000) (hn:h.f7.length<1000000000000000):∃ r,f_pluvialref05_Check.f h=some r∧(r=0↔Valid h):=by
 unfold f_pluvialref05_Check.f
 have hk:((if(h.f0 != (0:Int))=true then(some (h.f0 != (1:Int))) else(some false)):Option (Bool))=some (!decide (h.f0=0∨h.f0=1)):=by
  by_cases h1:h.f0=0
  ·simp[h1]
  ·by_cases h2:h.f0=1<;>simp[h1,h2]
 rw[hk,sb]
 by_cases c1:h.f0=0∨h.f0=1
 case neg=>rw[if_pos (by simpa using c1)];exact⟨_,rfl,by simp;intro h;exact c1 h.kind⟩
 rw[if_neg (by rw[decide_eq_true c1];decide),ref_right,sb]
 by_cases c2:RightS h.f1
 case neg=>rw[if_pos (by simp[c2])];exact⟨_,rfl,by simp;intro h;exact c2 h.schema⟩
 rw[if_neg (by simp[c2])]
 have hz:((if(h.f2 != (-524288))=true then(if(decide (h.f2≤(-262144)))=true then(some true) else(some (decide (h.f2>(262144:Int))))) else(some false)):Option (Bool))=some (!decide (h.f2 = -524288∨(-262144<h.f2∧h.f2≤262144))):=by
  by_cases h1:h.f2 = -524288
  ·simp[h1]
  ·by_cases h2:h.f2 ≤ -262144
   ·simp[h1,h2]
   ·have h4 : -262144<h.f2:=by omega
    by_cases h3:h.f2≤262144
    ·simp[h1,h2,h3,h4]
    ·simp[h1,h2,h3,h4];omega
 rw[hz,sb]
 by_cases c3:h.f2 = -524288∨(-262144<h.f2∧h.f2≤262144)
 case neg=>rw[if_pos (by simp[c3])];exact⟨_,rfl,by simp;intro h;exact c3 h.zero⟩
 rw[if_neg (by simp[c3])]
 obtain⟨r1,e1,n1,i1,j1⟩:=ref_check_side h 0 h.f6 [h.f3] c2 hp (by simp) hf.pos
 have w1:IntKind.i64.wrap (0+1)=1:=by decide
 have w2:IntKind.i64.wrap (1+1)=2:=by decide
 have step:∀ (k:Int) (l:List TBucket) (acc:List Int),(k=0∧l=h.f6∨k=1∧l=h.f7)→f_pluvialref05_Check.l0 h acc k=((if(decide ((l.length:Int)>(512:Int)))=true then(some (.inl 9)) else(f_pluvialref05_Check.l1 h k l acc 0))>>=fun(oo:Int ⊕ List Int)=>match oo with | .inl rr=>(some (.inl rr)) | .inr x181=>(f_pluvialref05_Check.l0 h x181 (k+1))):=by
  intro k l acc hk
  rcases hk with ⟨rfl,rfl⟩ | ⟨rfl,rfl⟩
  ·rw[f_pluvialref05_Check.l0,if_pos (by decide),if_neg (by decide),sb,w1,bind_iteB];rfl
  ·rw[f_pluvialref05_Check.l0,if_pos (by decide),if_pos (by decide),sb,w2,bind_iteB];rfl
 rw[step 0 h.f6 _ (.inl ⟨rfl,rfl⟩),e1,sb]
 cases r1 with
 | inl c=>exact⟨c,rfl,fun h=>absurd h (n1 c rfl),fun h=>by obtain⟨a,e⟩:=i1.2 h.pos;cases e⟩
 | inr a1 =>
  have hv1:=i1.1 ⟨_,rfl⟩
  have ha1:=j1 a1 rfl
  have hl1:=hv1.len
  obtain⟨r2,e2,n2,i2,j2⟩:=ref_check_side h 1 h.f7 a1 c2 hn (by rw[ha1];simp;omega) hf.neg
  simp only[]
  rw[show(0:Int)+1=1 from rfl,step 1 h.f7 _ (.inr ⟨rfl,rfl⟩),e2,sb]
  cases r2 with
  | inl c=>exact⟨c,rfl,fun h=>absurd h (n2 c rfl),fun h=>by obtain⟨a,e⟩:=i2.2 h.neg;cases e⟩
  | inr a2 =>
   have hv2:=i2.1 ⟨_,rfl⟩
   have ha2:=j2 a2 rfl
   have hl2:=hv2.len
   simp only[]
   rw[show(1:Int)+1=2 from rfl,f_pluvialref05_Check.l0,if_neg (by decide),sb]
   simp only[]
   have hall:a2=[h.f3]++h.f6.map (·.f1)++h.f7.map (·.f1):=by rw[ha2,ha1]
   have hsum:a2.sum=cnt h.f6+cnt h.f7+h.f3:=by rw[hall];simp[cnt];omega
   rw[ref_add a2 (by rw[hall];simp;omega) (by
    intro x hx
    rw[hall] at hx
    simp only[List.mem_append,List.mem_singleton,List.mem_map] at hx
    rcases hx with (rfl | ⟨b,hb,rfl⟩) | ⟨b,hb,rfl⟩
    ·exact hf.zero
    ·exact(hf.pos b hb).2
    ·exact(hf.neg b hb).2),sb,hsum]
   by_cases c4:cnt h.f6+cnt h.f7+h.f3<18446744073709551616
   case neg=>rw[if_neg c4,if_pos (by simp)];exact⟨_,rfl,by simp;intro h;exact c4 h.total⟩
   rw[if_pos c4,if_neg (by simp)]
   by_cases c5:cnt h.f6+cnt h.f7+h.f3=h.f4
   ·rw[if_neg (by simpa using c5)]
    exact⟨0,rfl,fun _=>⟨c1,c2,c3,hv1,hv2,c4,c5.symm⟩,fun _=>rfl⟩
   ·rw[if_pos (by simpa using c5)]
    exact⟨_,rfl,by simp;intro h;exact c5 h.count.symm⟩
end Go.Proofs.Ytfkppdcfgmgllaa.PvGD3
set_option linter.unusedVariables false
set_option linter.unusedSimpArgs false
namespace Go.Proofs.Ytfkppdcfgmgllaa.PvGD3
open Go Go.Pv Go.Pv.GS
open Classical
structure Right8 (h:THist):Prop where
 pos:h.f6.length≤100
 neg:h.f7.length≤100
 valid:Valid h
abbrev cellN (s:Int) (b:TBucket):Trank_Cell:=⟨⟨-1,s,b.f0⟩,b.f1⟩
abbrev cellP (s:Int) (b:TBucket):Trank_Cell:=⟨⟨1,s,b.f0⟩,b.f1⟩
def cellZ (z:Int):List Trank_Cell:=if 0<z then [⟨⟨0,0,0⟩,z⟩] else []
def cells (h:THist):List Trank_Cell:=(h.f7.reverse.map (cellN h.f1)++cellZ h.f3)++h.f6.map (cellP h.f1)
end Go.Proofs.Ytfkppdcfgmgllaa.PvGD3
set_option linter.unusedVariables false
set_option linter.unusedSimpArgs false
namespace Go.Proofs.Ytfkppdcfgmgllaa.PvGD3
open Go Go.Pv Go.Pv.GS
open Classical
def lo (h:THist) (c:Trank_Cell):Int:=if c.f0.f0>0 then 1048576+(c.f0.f2-1)*stp h.f1 else if c.f0.f0<0 then -1048576-c.f0.f2*stp h.f1 else if h.f2 = -524288 then 0 else -1048576-h.f2
def hi (h:THist) (c:Trank_Cell):Int:=if c.f0.f0>0 then 1048576+c.f0.f2*stp h.f1 else if c.f0.f0<0 then -1048576-(c.f0.f2-1)*stp h.f1 else if h.f2 = -524288 then 0 else 1048576+h.f2
inductive CellOk (h:THist):Trank_Cell→Prop
 | neg (b:TBucket) (hb:b∈h.f7) (ok:BOk h.f1 h.f2 b):CellOk h (cellN h.f1 b)
 | zero (hz:0<h.f3):CellOk h ⟨⟨0,0,0⟩,h.f3⟩
 | pos (b:TBucket) (hb:b∈h.f6) (ok:BOk h.f1 h.f2 b):CellOk h (cellP h.f1 b)
def p0:Trank_Part:=⟨0,0,0⟩
end Go.Proofs.Ytfkppdcfgmgllaa.PvGD3
set_option linter.unusedVariables false
set_option linter.unusedSimpArgs false
namespace Go.Proofs.Ytfkppdcfgmgllaa.PvGD3
open Go Go.Pv Go.Pv.GS
open Classical
def wsum (l:List TBucket) (w:Int→Int):Int:=(l.map (fun b=>b.f1*w b.f0)).sum
theorem wsum_cons (b:TBucket) (l:List TBucket) (w:Int→Int):wsum (b::l) w=b.f1*w b.f0+wsum l w:=by simp[wsum]
theorem wsum_append (a b:List TBucket) (w:Int→Int):wsum (a++b) w=wsum a w+wsum b w:=by simp[wsum]
theorem wsum_split (l:List TBucket) (i:Int) (w:Int→Int):wsum l w=tot l i*w i+wsum (l.filter (fun b=>decide (b.f0≠i))) w:=by
 induction l with
 | nil=>simp[wsum,tot]
 | cons b l ih =>
  rw[wsum_cons,ih,tot]
  by_cases h:b.f0=i
  ·subst h;simp[Int.add_mul];omega
  ·rw[if_neg h,List.filter_cons_of_pos (by simpa using h),wsum_cons,Int.zero_add];omega
theorem tot_filter (l:List TBucket) (p:Int→Bool) (i:Int):tot (l.filter (fun b=>p b.f0)) i=if p i=true then tot l i else 0:=by
 induction l with
 | nil=>simp[tot]
 | cons b l ih =>
  by_cases h:p b.f0=true
  ·rw[List.filter_cons_of_pos (by simpa using h),tot,ih,tot]
   by_cases e:b.f0=i
   ·subst e;simp[h]
   ·simp[e]
  ·rw[List.filter_cons_of_neg (by simpa using h),ih,tot]
   by_cases e:b.f0=i
   ·subst e;simp[h]
   ·simp[e]
theorem wsum_zero:∀ (n:Nat) (l:List TBucket),l.length≤n→(∀ i,tot l i=0)→∀ w,wsum l w=0:=by
 intro n
 induction n with
 | zero =>
  intro l hn _ w
  obtain rfl:l=[]:=List.length_eq_zero_iff.1 (by omega)
  rfl
 | succ n ih =>
  intro l hn h w
  cases l with
  | nil=>rfl
  | cons b l =>
   rw[wsum_split _ b.f0,h,Int.zero_mul,Int.zero_add]
   refine ih _ ?_ (fun i => ?_) w
   ·rw[List.filter_cons_of_neg (by simp)]
    have:=List.length_filter_le (fun b':TBucket=>decide (b'.f0≠b.f0)) l
    simp only[List.length_cons] at hn;omega
   ·have:=tot_filter (b::l) (fun j=>decide (j≠b.f0)) i
    rw[this,h];simp
def negl (l:List TBucket):List TBucket:=l.map (fun b=>⟨b.f0,-b.f1⟩)
theorem tot_negl (l:List TBucket) (i:Int):tot (negl l) i = - tot l i:=by
 induction l with
 | nil=>rfl
 | cons b l ih=>simp only[negl,List.map_cons,tot] at *;rw[ih];split<;>omega
theorem wsum_negl (l:List TBucket) (w:Int→Int):wsum (negl l) w = - wsum l w:=by
 induction l with
 | nil=>rfl
 | cons b l ih=>rw[negl,List.map_cons,wsum_cons,wsum_cons];rw[negl] at ih;rw[ih];simp[Int.neg_mul];omega
theorem wsum_congr {l l':List TBucket} (h:∀ i,tot l i=tot l' i) (w:Int→Int):wsum l w=wsum l' w:=by
 have:=wsum_zero _ (l++negl l') (Nat.le_refl _) (fun i=>by rw[tot_append,tot_negl,h];omega) w
 rw[wsum_append,wsum_negl] at this;omega
theorem cnt_wsum (l:List TBucket):cnt l=wsum l (fun _=>1):=by simp[cnt,wsum]
theorem cnt_congr {l l':List TBucket} (h:∀ i,tot l i=tot l' i):cnt l=cnt l':=by rw[cnt_wsum,cnt_wsum,wsum_congr h]
theorem tot_le_cnt {l:List TBucket} (h:Nn l) (i:Int):tot l i≤cnt l:=by
 induction l with
 | nil=>simp[tot,cnt]
 | cons b l ih =>
  have:=h b (by simp)
  have h2:Nn l:=fun y hy=>h y (by simp[hy])
  have:=ih h2
  have:=cnt_nonneg h2
  rw[tot,cnt_cons];split<;>omega
theorem cnt_filter (l:List TBucket) (p:TBucket→Bool):cnt (l.filter p)+cnt (l.filter (fun b => !p b))=cnt l:=by
 induction l with
 | nil=>rfl
 | cons b l ih =>
  cases h:p b with
  | true=>rw[List.filter_cons_of_pos h,List.filter_cons_of_neg (by simp[h]),cnt_cons,cnt_cons];omega
  | false=>rw[List.filter_cons_of_neg (by simp[h]),List.filter_cons_of_pos (by simp[h]),cnt_cons,cnt_cons];omega
structure Bs (s z:Int) (l:List TBucket):Prop where
 len:l.length≤5000
 ok:∀ b∈l,InS s b.f0∧0≤b.f1∧z≤(b.f0-1)*stp s
theorem Bs.nn {s z:Int} {l:List TBucket} (h:Bs s z l):Nn l:=fun b hb=>(h.ok b hb).2.1
theorem le_cnt {l:List TBucket} (h:Nn l) {b:TBucket} (hb:b∈l):b.f1≤cnt l:=Int.le_trans (tot_mem h hb) (tot_le_cnt h _)
theorem tidy_ok {s z:Int} {l:List TBucket} (h:Bs s z l) (ht:cnt l<18446744073709551616) :
  ∃ o,f_hist_tidy.f l=some (o,0)∧Canon o∧(∀ i,tot o i=tot l i)∧(∀ b∈o,BOk s z b)∧(∀ b∈o,U64 b.f1)∧o.length≤l.length∧cnt o=cnt l:=by
 have hl:=h.len
 rcases tidy_spec l (by omega) (fun b hb=>⟨h.nn b hb,by have:=le_cnt h.nn hb;omega⟩) with ⟨o,e,h1,h2,h3,h4,h5⟩ | ⟨e,i,h1⟩
 ·refine⟨o,e,h1,h2,fun b hb => ?_,h3,h5,cnt_congr h2⟩
  obtain⟨p,hp,e⟩:=h4 b hb
  have:=h.ok p hp
  exact⟨e ▸ this.1,h1.pos b hb,e ▸ this.2.2⟩
 ·have:=tot_le_cnt h.nn i;omega
theorem inS_i64 {s i:Int} (h:InS s i):I64 i:=by have:=inS_small h;constructor<;>omega
theorem make_valid (g:THist) (p n:List TBucket) (hk:g.f0=0∨g.f0=1) (hs:RightS g.f1) (hz:g.f2 = -524288∨(-262144<g.f2∧g.f2≤262144)) (h3:0≤g.f3) (h5:I64 g.f5)
  (hp:Bs g.f1 g.f2 p) (hn:Bs g.f1 g.f2 n) (ht:cnt p+cnt n+g.f3<18446744073709551616) (hl:∀ o,Canon o→(((∀ i,tot o i=tot p i)∧o.length≤p.length)∨((∀ i,tot o i=tot n i)∧o.length≤n.length))→o.length≤512) :
  ∃ r,f_hist_Make.f g p n=some (r,0)∧Valid r∧Fits r∧r.f0=g.f0∧r.f1=g.f1∧r.f2=g.f2∧r.f3=g.f3∧r.f5=g.f5∧(∀ i,tot r.f6 i=tot p i)∧(∀ i,tot r.f7 i=tot n i)∧r.f4=cnt p+cnt n+g.f3:=by
 have np:=cnt_nonneg hp.nn
 have nn:=cnt_nonneg hn.nn
 obtain⟨o,e1,c1,t1,b1,u1,l1,q1⟩:=tidy_ok hp (by omega)
 obtain⟨o2,e2,c2,t2,b2,u2,l2,q2⟩:=tidy_ok hn (by omega)
 have hlp:=hp.len
 have hln:=hn.len
 have htot:=total3 o o2 g.f3 (by omega) (by omega) u1 u2 ⟨h3,by omega⟩
 rw[q1,q2,if_pos ht] at htot
 have hf:Fits (⟨g.f0,g.f1,g.f2,g.f3,cnt p+cnt n+g.f3,g.f5,o,o2⟩:THist) :=
  ⟨by rcases hk with h | h<;>rw[h]<;>constructor<;>omega,by have:=hs.1;have:=hs.2;constructor<;>simp<;>omega,by rcases hz with h | h<;>constructor<;>simp<;>omega,⟨h3,by simp;omega⟩,⟨by simp;omega,ht⟩,h5,
   fun b hb=>⟨inS_i64 (b1 b hb).ins,u1 b hb⟩,fun b hb=>⟨inS_i64 (b2 b hb).ins,u2 b hb⟩⟩
 have hv:Valid (⟨g.f0,g.f1,g.f2,g.f3,cnt p+cnt n+g.f3,g.f5,o,o2⟩:THist) :=
  ⟨hk,hs,hz,⟨hl o c1 (.inl ⟨t1,l1⟩),b1,c1.up⟩,⟨hl o2 c2 (.inr ⟨t2,l2⟩),b2,c2.up⟩,by simp only[q1,q2];exact ht,by simp only[q1,q2]⟩
 refine⟨_,?_,hv,hf,rfl,rfl,rfl,rfl,rfl,t1,t2,rfl⟩
 unfold f_hist_Make.f
 rw[e1,e2,sb,sb,if_neg (by simp),htot,sb,if_neg (by simp),check_T _ hf hv,sb,if_neg (by simp)]
def Strad (s a:Int) (l:List TBucket):Prop:=∃ b∈l,(b.f0-1)*stp s<a∧a<b.f0*stp s
def cg (s a:Int):Int:=-((-a) / stp s)*stp s
theorem cg_eq {s a i:Int} (h1:(i-1)*stp s<a) (h2:a≤i*stp s):cg s a=i*stp s:=by
 have hp:=stp_pos s
 unfold cg
 generalize stp s=st at *
 have : -((-a) / st)=i:=by
  have e1:=Int.ediv_mul_le (-a) (show st≠0 by omega)
  have e2:=Int.lt_ediv_add_one_mul_self (-a) hp
  generalize (-a) / st=q at *
  rw[Int.add_mul] at e2
  rw[Int.sub_mul] at h1
  have a1 : -q*st<(i+1)*st:=by rw[Int.neg_mul,Int.add_mul];omega
  have a2:(i-1)*st < -q*st:=by rw[Int.neg_mul,Int.sub_mul];omega
  have b1:=Int.lt_of_mul_lt_mul_right a1 (by omega)
  have b2:=Int.lt_of_mul_lt_mul_right a2 (by omega)
  omega
 rw[this]
theorem edge_l0 (h:THist) (l:List TBucket) (a:Int) (hs:RightS h.f1) (hl:l.length<1000000000) (hi:∀ b∈l,InS h.f1 b.f0):∀ (suf pre:List TBucket) (i:Int),l=pre++suf→i=(pre.length:Int) →
  f_meld_edge.l0 h l a i=some (if Strad h.f1 a suf then .inl (cg h.f1 a) else .inr ()):=by
 intro suf
 induction suf with
 | nil =>
  intro pre i h1 hi0
  subst h1
  rw[f_meld_edge.l0,if_neg (by simp[hi0]),if_neg (by simp[Strad])]
 | cons x suf ih =>
  intro pre i h1 hi0
  have hx:=hi x (by rw[h1];simp)
  have hlen:(l.length:Int)=pre.length+(suf.length+1):=by rw[h1];simp
  rw[f_meld_edge.l0,if_pos (by simp;omega),at_mid h1 hi0,sb,low_T hs hx,sb,units_in hs hx,sb,ifand,sb,sb]
  by_cases hc:(x.f0-1)*stp h.f1<a∧a<x.f0*stp h.f1
  ·rw[if_pos (by simpa using hc),if_pos ⟨x,by simp,hc⟩,cg_eq hc.1 (by omega)]
  ·rw[if_neg (by simpa using hc),wrap64 (by omega) (by omega),ih (pre++[x]) (i+1) (by simp[h1]) (by simp;omega)]
   have:Strad h.f1 a (x::suf)↔Strad h.f1 a suf:=by
    constructor
    ·rintro⟨b,hb,h⟩
     rcases List.mem_cons.1 hb with rfl | hb
     ·exact absurd h hc
     ·exact⟨b,hb,h⟩
    ·rintro⟨b,hb,h⟩;exact⟨b,by simp[hb],h⟩
   by_cases hst:Strad h.f1 a suf
   ·rw[if_pos hst,if_pos (this.2 hst)]
   ·rw[if_neg hst,if_neg (fun q=>hst (this.1 q))]
theorem edge_eq (h:THist) (l:List TBucket) (a:Int) (hs:RightS h.f1) (hl:l.length<1000000000) (hi:∀ b∈l,InS h.f1 b.f0) :
  f_meld_edge.f h l a=some (if Strad h.f1 a l then cg h.f1 a else a):=by
 unfold f_meld_edge.f
 rw[edge_l0 h l a hs hl hi l [] 0 rfl rfl,sb]
 by_cases hst:Strad h.f1 a l
 ·rw[if_pos hst,if_pos hst]
 ·rw[if_neg hst,if_neg hst]
abbrev above (s a:Int) (i:Int):Bool:=decide (a<i*stp s)
abbrev keepL (s a:Int) (l:List TBucket):List TBucket:=l.filter (fun b=>above s a b.f0)
abbrev dropL (s a:Int) (l:List TBucket):List TBucket:=l.filter (fun b => !above s a b.f0)
theorem keep_l0 (l:List TBucket) (c0 s c2 c4 c5:Int) (c6 c7:List TBucket) (a:Int) (hs:RightS s) (hl:l.length<1000000) (hi:∀ b∈l,InS s b.f0) (hU:∀ b∈l,0≤b.f1):∀ (suf pre:List TBucket) (z:Int) (o:List TBucket) (i:Int),l=pre++suf→i=(pre.length:Int)→0≤z→z+cnt suf<18446744073709551616→o.length≤pre.length →
  f_meld_swallow_1_8ce.l0 l c0 s c2 c4 c5 c6 c7 a z o i=some (o++keepL s a suf,z+cnt (dropL s a suf)):=by
 intro suf
 induction suf with
 | nil =>
  intro pre z o i h1 hi0 _ _ _
  subst h1
  rw[f_meld_swallow_1_8ce.l0,if_neg (by simp[hi0])]
  simp[cnt]
 | cons x suf ih =>
  intro pre z o i h1 hi0 h0 hz ho
  have hx:=hi x (by rw[h1];simp)
  have hx1:=hU x (by rw[h1];simp)
  have hn:0≤cnt suf:=cnt_nonneg (fun b hb=>hU b (by rw[h1];simp[hb]))
  have hlen:(l.length:Int)=pre.length+(suf.length+1):=by rw[h1];simp
  rw[cnt_cons] at hz
  rw[f_meld_swallow_1_8ce.l0,if_pos (by simp;omega),at_mid h1 hi0,sb,units_in hs hx,sb,wrap64 (by omega) (by omega),num_add2 (a:=z) (b:=x.f1) ⟨h0,by omega⟩ ⟨hx1,by omega⟩]
  by_cases hc:a<x.f0*stp s
  ·rw[if_pos (by simpa using hc),chkB (by simp;omega),sb]
   simp only[]
   rw[ih (pre++[x]) z (o++[x]) (i+1) (by simp[h1]) (by simp;omega) h0 (by omega) (by simp;omega)]
   simp[hc]
  ·rw[if_neg (by simpa using hc),if_pos (by omega),sb,sb]
   simp only[]
   rw[ih (pre++[x]) (z+x.f1) o (i+1) (by simp[h1]) (by simp;omega) (by omega) (by omega) (by simp;omega)]
   rw[show keepL s a (x::suf)=keepL s a suf from List.filter_cons_of_neg (by simpa using hc),show dropL s a (x::suf)=x::dropL s a suf from List.filter_cons_of_pos (by simpa using hc),cnt_cons,Int.add_assoc]
theorem keep_eq (l:List TBucket) (c0 s c2 z c4 c5:Int) (c6 c7:List TBucket) (a:Int) (hs:RightS s) (hl:l.length<1000000) (hi:∀ b∈l,InS s b.f0) (hU:∀ b∈l,0≤b.f1) (h0:0≤z) (hz:z+cnt l<18446744073709551616) :
  f_meld_swallow_1_8ce.f l c0 s c2 z c4 c5 c6 c7 a=some (keepL s a l,z+cnt (dropL s a l)):=by
 unfold f_meld_swallow_1_8ce.f
 rw[keep_l0 l c0 s c2 c4 c5 c6 c7 a hs hl hi hU l [] z [] 0 rfl rfl h0 hz (Nat.le_refl _),sb]
 simp
noncomputable def zAt (s a:Int) (p n:List TBucket):Int:=if Strad s a p∨Strad s a n then cg s a else a
theorem strad_lt {s a:Int} {l:List TBucket} (h:Strad s a l):a<cg s a:=by
 obtain⟨b,hb,h1,h2⟩:=h
 rw[cg_eq h1 (by omega)];exact h2
theorem zAt_max (s a:Int) (p n:List TBucket):(if(if Strad s a n then cg s a else a)>(if Strad s a p then cg s a else a) then(if Strad s a n then cg s a else a) else(if Strad s a p then cg s a else a))=zAt s a p n:=by
 unfold zAt
 by_cases h1:Strad s a p
 ·have:=strad_lt h1
  by_cases h2:Strad s a n<;>simp[h1,h2];omega
 ·by_cases h2:Strad s a n
  ·have:=strad_lt h2
   simp[h1,h2];omega
  ·simp[h1,h2]
theorem zAt_le (s a:Int) (p n:List TBucket):a≤zAt s a p n:=by
 unfold zAt
 split
 ·rename_i h;rcases h with h | h<;>exact Int.le_of_lt (strad_lt h)
 ·exact Int.le_refl _
structure Cs (s:Int) (l:List TBucket):Prop where
 len:l.length≤5000
 ins:∀ b∈l,InS s b.f0
 pos:∀ b∈l,0<b.f1
theorem Cs.nn {s:Int} {l:List TBucket} (h:Cs s l):Nn l:=fun b hb=>Int.le_of_lt (h.pos b hb)
theorem kept_low {s a:Int} {p n l:List TBucket} (hl:l=p∨l=n) {b:TBucket} (hb:b∈l) (h:zAt s a p n<b.f0*stp s):zAt s a p n≤(b.f0-1)*stp s:=by
 have hp:=stp_pos s
 unfold zAt at *
 by_cases hc:Strad s a p∨Strad s a n
 ·rw[if_pos hc] at *
  unfold cg at *
  have h1:=Int.lt_of_mul_lt_mul_right h (Int.le_of_lt hp)
  exact Int.mul_le_mul_of_nonneg_right (by omega) (Int.le_of_lt hp)
 ·rw[if_neg hc] at *
  by_cases h2:(b.f0-1)*stp s<a
  ·rcases hl with rfl | rfl
   ·exact absurd (.inl ⟨b,hb,h2,h⟩) hc
   ·exact absurd (.inr ⟨b,hb,h2,h⟩) hc
  ·omega
theorem zAt_range {s a:Int} {p n:List TBucket} (hp:∀ b∈p,InS s b.f0) (hn:∀ b∈n,InS s b.f0) (ha:a = -524288∨(-262144<a∧a≤262144)):zAt s a p n = -524288∨(-262144<zAt s a p n∧zAt s a p n≤262144):=by
 unfold zAt
 split
 ·rename_i h
  rcases h with ⟨b,hb,h1,h2⟩ | ⟨b,hb,h1,h2⟩
  ·rw[cg_eq h1 (by omega)];exact .inr (hp b hb)
  ·rw[cg_eq h1 (by omega)];exact .inr (hn b hb)
 ·exact ha
structure Swal (h:THist) (p n:List TBucket) (a:Int) (r:THist):Prop where
 valid:Valid r
 fits:Fits r
 kind:r.f0=h.f0
 schema:r.f1=h.f1
 zeroAt:r.f2=zAt h.f1 a p n
 zero:r.f3=h.f3+cnt (dropL h.f1 (zAt h.f1 a p n) p)+cnt (dropL h.f1 (zAt h.f1 a p n) n)
 sum:r.f5=h.f5
 tpos:∀ i,tot r.f6 i=if above h.f1 (zAt h.f1 a p n) i=true then tot p i else 0
 tneg:∀ i,tot r.f7 i=if above h.f1 (zAt h.f1 a p n) i=true then tot n i else 0
 count:r.f4=cnt p+cnt n+h.f3
theorem swallow_eq (h:THist) (p n:List TBucket) (a:Int) (hk:h.f0=0∨h.f0=1) (hs:RightS h.f1) (ha:a = -524288∨(-262144<a∧a≤262144)) (h3:0≤h.f3) (h5:I64 h.f5) (hp:Cs h.f1 p) (hn:Cs h.f1 n) (hpl:p.length≤512) (hnl:n.length≤512)
  (ht:cnt p+cnt n+h.f3<18446744073709551616):∃ r,f_meld_swallow.f h p n a=some (r,0)∧Swal h p n a r:=by
 have c1:=cnt_nonneg hp.nn
 have c2:=cnt_nonneg hn.nn
 have d1:cnt (keepL h.f1 (zAt h.f1 a p n) p)+cnt (dropL h.f1 (zAt h.f1 a p n) p)=cnt p:=cnt_filter p _
 have d2:cnt (keepL h.f1 (zAt h.f1 a p n) n)+cnt (dropL h.f1 (zAt h.f1 a p n) n)=cnt n:=cnt_filter n _
 have e1:=cnt_nonneg (l:=keepL h.f1 (zAt h.f1 a p n) p) (fun b hb=>hp.nn b ((List.mem_filter.1 hb).1))
 have e2:=cnt_nonneg (l:=keepL h.f1 (zAt h.f1 a p n) n) (fun b hb=>hn.nn b ((List.mem_filter.1 hb).1))
 have e3:=cnt_nonneg (l:=dropL h.f1 (zAt h.f1 a p n) p) (fun b hb=>hp.nn b ((List.mem_filter.1 hb).1))
 have e4:=cnt_nonneg (l:=dropL h.f1 (zAt h.f1 a p n) n) (fun b hb=>hn.nn b ((List.mem_filter.1 hb).1))
 have hb:∀ l,(l=p∨l=n)→Cs h.f1 l→Bs h.f1 (zAt h.f1 a p n) (keepL h.f1 (zAt h.f1 a p n) l):=fun l hl hc =>
  ⟨Nat.le_trans (List.length_filter_le _ _) hc.len,fun b hb=>by
   obtain⟨h1,h2⟩:=List.mem_filter.1 hb
   exact⟨hc.ins b h1,Int.le_of_lt (hc.pos b h1),kept_low hl h1 (by simpa using h2)⟩⟩
 obtain⟨r,g1,g2,g3,g4,g5,g6,g7,g8,g9,g10,g11⟩:=make_valid (⟨h.f0,h.f1,zAt h.f1 a p n,h.f3+cnt (dropL h.f1 (zAt h.f1 a p n) p)+cnt (dropL h.f1 (zAt h.f1 a p n) n),h.f4,h.f5,h.f6,h.f7⟩:THist)
  (keepL h.f1 (zAt h.f1 a p n) p) (keepL h.f1 (zAt h.f1 a p n) n) hk hs (zAt_range hp.ins hn.ins ha) (by simp;omega) h5 (hb p (.inl rfl) hp) (hb n (.inr rfl) hn) (by simp only;omega) (fun o ho hto=>by
   rcases hto with hto | hto
   ·exact Nat.le_trans hto.2 (Nat.le_trans (List.length_filter_le _ _) hpl)
   ·exact Nat.le_trans hto.2 (Nat.le_trans (List.length_filter_le _ _) hnl))
 refine⟨r,?_,⟨g2,g3,g4,g5,g6,g7,g8,fun i => ?_,fun i => ?_,?_⟩⟩
 ·have l1:=hp.len
  have l2:=hn.len
  unfold f_meld_swallow.f
  rw[edge_eq h p a hs (by omega) hp.ins,edge_eq h n a hs (by omega) hn.ins,sb,sb,zAt_max]
  rw[keep_eq p _ h.f1 _ h.f3 _ _ _ _ _ hs (by omega) hp.ins hp.nn h3 (by omega),sb,keep_eq n _ h.f1 _ _ _ _ _ _ _ hs (by omega) hn.ins hn.nn (by simp only;omega) (by simp only;omega),sb,g1]
  rfl
 ·rw[g9];exact tot_filter p _ i
 ·rw[g10];exact tot_filter n _ i
 ·rw[g11];simp only;omega
end Go.Proofs.Ytfkppdcfgmgllaa.PvGD3
set_option linter.unusedVariables false
set_option linter.unusedSimpArgs false
namespace Go.Proofs.Ytfkppdcfgmgllaa.PvGD3
open Go Go.Pv Go.Pv.GS
open Classical
def rat (f t:Int):Int:=2 ^ (f-t).toNat
theorem rat_pos (f t:Int):0<rat f t:=Int.pow_pos (by omega)
theorem stp_rat {f t:Int} (h1:t≤f) (h2:f≤8):stp t=stp f*rat f t:=by
 unfold stp rat
 rw[← Int.pow_add];congr 1;omega
def upI (f t i:Int):Int:=-((-i) / rat f t)
theorem upI_spec (f t i:Int):(upI f t i-1)*rat f t<i∧i≤upI f t i*rat f t:=by
 have hp:=rat_pos f t
 unfold upI
 generalize rat f t=r at *
 have e1:=Int.ediv_mul_le (-i) (show r≠0 by omega)
 have e2:=Int.lt_ediv_add_one_mul_self (-i) hp
 generalize (-i) / r=q at *
 rw[Int.add_mul] at e2
 constructor
 ·rw[Int.sub_mul,Int.neg_mul];omega
 ·rw[Int.neg_mul];omega
theorem upI_in {f t i:Int} (hf:RightS f) (ht:RightS t) (h:t≤f) (hi:InS f i):InS t (upI f t i):=by
 obtain⟨h3,h4⟩:=upI_spec f t i
 have hst:=stp_rat h hf.2
 have hp:=stp_pos f
 have hd:=stp_dvd ht
 have hr:=rat_pos f t
 obtain⟨i1,i2⟩:=hi
 constructor
 ·rw[hst,Int.mul_comm (stp f),← Int.mul_assoc]
  have:=Int.mul_le_mul_of_nonneg_right h4 (Int.le_of_lt hp);omega
 ·
  generalize hQ:262144 / stp t=Q at hd
  have hi3:i*stp f≤Q*rat f t*stp f:=by rw[Int.mul_assoc,Int.mul_comm (rat f t),← hst,hd];exact i2
  have hi4:=Int.le_of_mul_le_mul_right hi3 hp
  have:=Int.lt_of_mul_lt_mul_right (show(upI f t i-1)*rat f t<Q*rat f t by omega) (Int.le_of_lt hr)
  have:=Int.mul_le_mul_of_nonneg_right (show upI f t i≤Q by omega) (Int.le_of_lt (stp_pos t))
  omega
theorem to_eq {f t i:Int} (hf:RightS f) (ht:RightS t) (h:t≤f) (hi:InS f i):f_bound_To.f f t i=some (upI f t i,0):=by
 have hs:=inS_small hi
 have h1:=hf.1
 have h2:=hf.2
 have h3:=ht.1
 have h4:=ht.2
 unfold f_bound_To.f f_num_Up.f
 rw[right_T hf,sb,if_neg (by simp),right_T ht,sb,if_neg (by simp),sb,if_neg (by simp;omega),in_T hf,sb,if_neg (by simp[hi]),chkB (u64_wrap _).1,sb]
 rw[wrap64 (n:=f-t) (by omega) (by omega),wrapU (by omega) (by omega),wrap64 (n:=0-i) (by omega) (by omega)]
 have e:min (f-t).toNat 64=(f-t).toNat:=by omega
 rw[e,Int.fdiv_eq_ediv_of_nonneg _ (Int.le_of_lt (Int.pow_pos (by omega)))]
 have:(0-i) / 2 ^ (f-t).toNat = -upI f t i:=by unfold upI rat;rw[Int.zero_sub];omega
 rw[this]
 have hj:=inS_small (upI_in hf ht h hi)
 rw[wrap64 (by omega) (by omega)]
 congr 2;omega
def downL (f t:Int) (l:List TBucket):List TBucket:=l.map (fun b=>⟨upI f t b.f0,b.f1⟩)
theorem downL_len (f t:Int) (l:List TBucket):(downL f t l).length=l.length:=by simp[downL]
theorem cnt_downL (f t:Int) (l:List TBucket):cnt (downL f t l)=cnt l:=by simp[cnt,downL,Function.comp_def]
theorem down_l0 (l:List TBucket) (f t:Int) (hf:RightS f) (ht:RightS t) (h:t≤f) (hl:l.length<1000000) (hi:∀ b∈l,InS f b.f0):∀ (suf pre o:List TBucket) (i:Int),l=pre++suf→i=(pre.length:Int)→o.length=pre.length →
  f_meld_down.l0 l f t o i=some (o++downL f t suf):=by
 intro suf
 induction suf with
 | nil =>
  intro pre o i h1 hi0 _
  subst h1
  rw[f_meld_down.l0,if_neg (by simp[hi0])]
  simp[downL]
 | cons x suf ih =>
  intro pre o i h1 hi0 ho
  have hx:=hi x (by rw[h1];simp)
  have hlen:(l.length:Int)=pre.length+(suf.length+1):=by rw[h1];simp
  rw[f_meld_down.l0,if_pos (by simp;omega),at_mid h1 hi0,sb,to_eq hf ht h hx,sb,chkB (by simp;omega),wrap64 (by omega) (by omega)]
  rw[ih (pre++[x]) _ (i+1) (by simp[h1]) (by simp;omega) (by simp;omega)]
  simp[downL]
theorem down_eq (l:List TBucket) (f t:Int) (hf:RightS f) (ht:RightS t) (h:t≤f) (hl:l.length<1000000) (hi:∀ b∈l,InS f b.f0):f_meld_down.f l f t=some (downL f t l):=by
 unfold f_meld_down.f
 rw[down_l0 l f t hf ht h hl hi l [] [] 0 rfl rfl rfl];simp
def h0:THist:=⟨0,0,0,0,0,0,[],[]⟩
theorem side_cs {s z:Int} {l:List TBucket} (h:Side s z l):Cs s l:=⟨by have:=h.len;omega,fun b hb=>(h.ok b hb).ins,fun b hb=>(h.ok b hb).pos⟩
theorem cs_down {f t:Int} {l:List TBucket} (hf:RightS f) (ht:RightS t) (h:t≤f) (hc:Cs f l):Cs t (downL f t l) :=
 ⟨by rw[downL_len];exact hc.len,fun b hb=>by
  obtain⟨x,hx,rfl⟩:=List.mem_map.1 hb
  exact upI_in hf ht h (hc.ins x hx),fun b hb=>by
  obtain⟨x,hx,rfl⟩:=List.mem_map.1 hb
  exact hc.pos x hx⟩
structure Cut (a:THist) (s z:Int) (r:THist):Prop where
 valid:Valid r
 fits:Fits r
 kind:r.f0=a.f0
 schema:r.f1=s
 zeroAt:r.f2=z
 count:r.f4=a.f4
 sum:r.f5=a.f5
 tpos:∀ i,tot r.f6 i=if above s z i=true then tot (downL a.f1 s a.f6) i else 0
 tneg:∀ i,tot r.f7 i=if above s z i=true then tot (downL a.f1 s a.f7) i else 0
theorem Down_eq (a:THist) (s:Int) (hv:Valid a) (hf:Fits a) (hs:RightS s) (hle:s≤a.f1) :
  ∃ r,f_meld_Down.f a s=some (r,0)∧Cut a s (zAt s a.f2 (downL a.f1 s a.f6) (downL a.f1 s a.f7)) r:=by
 have l1:=hv.pos.len
 have l2:=hv.neg.len
 have h1:=hv.count
 have h2:=hv.total
 obtain⟨r,e,h⟩:=swallow_eq (⟨a.f0,s,a.f2,a.f3,a.f4,a.f5,a.f6,a.f7⟩:THist) (downL a.f1 s a.f6) (downL a.f1 s a.f7) a.f2 hv.kind hs hv.zero hf.zero.1 hf.sum (cs_down hv.schema hs hle (side_cs hv.pos)) (cs_down hv.schema hs hle (side_cs hv.neg))
  (by rw[downL_len];exact l1) (by rw[downL_len];exact l2) (by rw[cnt_downL,cnt_downL];exact h2)
 refine⟨r,?_,⟨h.valid,h.fits,h.kind,h.schema,h.zeroAt,by rw[h.count,cnt_downL,cnt_downL];exact h1.symm,h.sum,h.tpos,h.tneg⟩⟩
 unfold f_meld_Down.f
 rw[right_T hs,sb,if_neg (by simp),sb,if_neg (by simp;omega),down_eq a.f6 a.f1 s hv.schema hs hle (by omega) (side_cs hv.pos).ins,down_eq a.f7 a.f1 s hv.schema hs hle (by omega) (side_cs hv.neg).ins,sb,sb,e]
 rfl
theorem clone_eq (a:THist) (h1:a.f6.length<1000000000) (h2:a.f7.length<1000000000):f_hist_Clone.f a=some a:=by
 unfold f_hist_Clone.f
 rw[clone_inst _ h1,clone_inst _ h2];rfl
theorem Widen_swal (a:THist) (z:Int) (hv:Valid a) (hf:Fits a) (hz : -262144<z∧z≤262144) (hlt:a.f2<z) :
  ∃ r,f_meld_Widen.f a z=some (r,0)∧Swal a a.f6 a.f7 z r:=by
 obtain⟨r,e,h⟩:=swallow_eq a a.f6 a.f7 z hv.kind hv.schema (.inr hz) hf.zero.1 hf.sum (side_cs hv.pos) (side_cs hv.neg) hv.pos.len hv.neg.len hv.total
 refine⟨r,?_,h⟩
 unfold f_meld_Widen.f
 rw[if_neg (by simp;omega),if_neg (by simp;omega),if_neg (by simp;omega),sb,if_neg (by simp;omega),e];rfl
theorem Widen_same (a:THist) (hv:Valid a):f_meld_Widen.f a a.f2=some (a,0):=by
 have l1:=hv.pos.len
 have l2:=hv.neg.len
 unfold f_meld_Widen.f
 rw[if_neg (by simp),if_pos (by simp),clone_eq a (by omega) (by omega)];rfl
theorem Cut.widen {a r r':THist} {s z z':Int} (h:Cut a s z r) (hz:z≤z') (hw:Swal r r.f6 r.f7 z' r'):Cut a s (zAt s z' r.f6 r.f7) r':=by
 have hle:=zAt_le s z' r.f6 r.f7
 have hc:=h.valid.count
 have key:∀ i (u v:Int),u=(if above s z i=true then v else 0)→(if above s (zAt s z' r.f6 r.f7) i=true then u else 0)=if above s (zAt s z' r.f6 r.f7) i=true then v else 0:=by
  intro i u v hu
  by_cases h1:zAt s z' r.f6 r.f7<i*stp s
  ·simp only[decide_eq_true_eq]
   rw[if_pos h1,if_pos h1,hu];simp only[decide_eq_true_eq];rw[if_pos (by omega)]
  ·simp only[decide_eq_true_eq];rw[if_neg h1,if_neg h1]
 have hs:=h.schema
 refine⟨hw.valid,hw.fits,hw.kind.trans h.kind,hw.schema.trans hs,?_,?_,hw.sum.trans h.sum,fun i => ?_,fun i => ?_⟩
 ·rw[hw.zeroAt,hs]
 ·rw[hw.count,← h.count,hc]
 ·rw[hw.tpos i,hs];exact key i _ _ (h.tpos i)
 ·rw[hw.tneg i,hs];exact key i _ _ (h.tneg i)
theorem no_strad_cg {s a:Int} {l:List TBucket}:¬ Strad s (cg s a) l:=by
 rintro⟨b,hb,h1,h2⟩
 have hp:=Int.le_of_lt (stp_pos s)
 unfold cg at *
 have:=Int.lt_of_mul_lt_mul_right h1 hp
 have:=Int.lt_of_mul_lt_mul_right h2 hp
 omega
theorem zAt_no {s a:Int} {p n:List TBucket} (h1:¬ Strad s a p) (h2:¬ Strad s a n):zAt s a p n=a:=by
 unfold zAt;rw[if_neg (by rintro(h | h)<;>contradiction)]
theorem zAt_or (s a:Int) (p n:List TBucket):zAt s a p n=a∧¬ Strad s a p∧¬ Strad s a n∨zAt s a p n=cg s a:=by
 unfold zAt
 by_cases h:Strad s a p∨Strad s a n
 ·exact .inr (if_pos h)
 ·exact .inl ⟨if_neg h,fun q=>h (.inl q),fun q=>h (.inr q)⟩
end Go.Proofs.Ytfkppdcfgmgllaa.PvGD3
set_option linter.unusedVariables false
set_option linter.unusedSimpArgs false
namespace Go.Proofs.Ytfkppdcfgmgllaa.PvGD3
open Go Go.Pv Go.Pv.GS
open Classical
structure Dn (h:THist) (s:Int) (d:THist):Prop where
 valid:Valid d
 fits:Fits d
 schema:d.f1=s
 zeroAt:d.f2 = -524288
 count:d.f4=h.f4
 zero:d.f3=h.f3
 tpos:∀ i,tot d.f6 i=tot (downL h.f1 s h.f6) i
 tneg:∀ i,tot d.f7 i=tot (downL h.f1 s h.f7) i
end Go.Proofs.Ytfkppdcfgmgllaa.PvGD3
set_option linter.unusedVariables false
set_option linter.unusedSimpArgs false
namespace Go.Proofs.Ytfkppdcfgmgllaa.PvGD3
open Go Go.Pv Go.Pv.GS
open Classical
def ceilD (N of:Int):Int:=if N % of=0 then N / of else N / of+1
def mx1 (n:Int):Int:=if(1:Int)>n then 1 else n
structure Part (h:THist) (part of:Int):Prop where
 ok:f_rank_Quantile.f h part of=f_rank_At.f h (mx1 (ceilD (part*h.f4) of))
 lo:1≤mx1 (ceilD (part*h.f4) of)
 hi:mx1 (ceilD (part*h.f4) of)≤h.f4
end Go.Proofs.Ytfkppdcfgmgllaa.PvGD3
set_option linter.unusedVariables false
set_option linter.unusedSimpArgs false
namespace Go.Proofs.Ytfkppdcfgmgllaa.PvGD3
open Go Go.Pv Go.Pv.GS
open Classical
def Cand (hv:Bool) (last:Int) (b:TBucket):Prop:=hv=false∨last<b.f0
structure Least (hv:Bool) (last:Int) (l:List TBucket) (fd:Bool) (nx:Int):Prop where
 none:fd=false→∀ b∈l,¬ Cand hv last b
 some:fd=true→(∃ b∈l,Cand hv last b∧b.f0=nx)∧∀ b∈l,Cand hv last b→nx≤b.f0
end Go.Proofs.Ytfkppdcfgmgllaa.PvGD3
