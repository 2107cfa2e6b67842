import Derived.Test.YtcilcefjcaimoaaGreatPxGroupTops15
set_option linter.unusedVariables false
set_option linter.unusedSimpArgs false
set_option linter.unusedSectionVars false
namespace Go.Pv.GS
open Go.Sort (swp)
abbrev CmpB {α:Type} (cmp:α→α→Option Bool) (lt:α→α→Bool):Prop:=∀ a b,∃ c,cmp a b=some c∧c=lt a b
variable {α:Type} [Inhabited α] {cmp:α→α→Option Bool} {lt:α→α→Bool}
theorem o_pq_ins_l1 (hc:CmpB cmp lt) (a2 x0:Int) (a:Nat):∀ (j:Nat) (d:Array α),j<d.size→d.size<1000000000→oInsertionSort.l1 cmp a a2 x0 d.toList j=some (Go.Sort.insInner lt a j d).toList:=by
 intro j
 induction j with
 | zero =>
  intro d h1 h2;rw[oInsertionSort.l1,if_neg (by simp),sb,if_neg (by simp)];rfl
 | succ j ih =>
  intro d h1 h2;have e1:IntKind.i64.wrap (((j+1:Nat):Int)-1)=(j:Int):=wN (by omega) (by omega);rw[oInsertionSort.l1,e1,Go.Sort.insInner];by_cases hj:j+1>a
  case neg=>rw[if_neg (by simp;omega),sb,if_neg (by simp),if_neg (by simp;omega)]
  rw[if_pos (by simp;omega),atA h1,sb,atA (by omega),sb];obtain⟨c,e,hlt⟩:=hc d[j+1]! d[j]!;rw[e,sb,hlt,sb];cases hl:lt d[j+1]! d[j]! with
  | false=>rw[if_neg (by simp),if_neg (by simp)]
  | true =>
   obtain⟨y,ey⟩:=atS (d:=d) (i:=j+1) (j:=j) (x:=d[j]!) (by omega);rw[if_pos rfl,sb,sb,ey,sb,setA,if_pos (by simp;omega)];exact ih (swp d (j+1) j) (by rw[Z0s];omega) (by rw[Z0s];exact h2)
theorem o_pq_ins_l0 (hc:CmpB cmp lt) (a:Nat) (b:Nat):∀ (k i:Nat) (d:Array α),b-i≤k→b≤d.size→d.size<1000000000→oInsertionSort.l0 cmp a b d.toList i=some (Go.Sort.insOuter lt a b i d).toList:=by
 intro k
 induction k with
 | zero=>intro i d h0 h1 h2;rw[oInsertionSort.l0,if_neg (by simp;omega),Go.Sort.insOuter,if_neg (by omega)]
 | succ k ih =>
  intro i d h0 h1 h2;rw[oInsertionSort.l0,Go.Sort.insOuter];by_cases h:i<b
  ·rw[if_pos (by simp;omega),if_pos h,o_pq_ins_l1 hc b i a i d (by omega) h2,sb,wN (k:=i+1) (by omega) (by omega)]
   exact ih (i+1) _ (by omega) (by rw[Z78];exact h1) (by rw[Z78];exact h2)
  ·rw[if_neg (by simp;omega),if_neg h]
theorem o_pq_ins (hc:CmpB cmp lt) (d:Array α) (a b:Nat) (hab:a≤b) (hb:b≤d.size) (hd:d.size<1000000000):oInsertionSort.f cmp d.toList a b=some (Go.Sort.insertionSort lt d a b).toList:=by
 unfold oInsertionSort.f;rw[wN (k:=a+1) (by omega) (by omega),o_pq_ins_l0 hc a b b (a+1) d (by omega) hb hd,sb];rfl
theorem o_pq_sift_l0 (hc:CmpB cmp lt) (hi first:Nat):∀ (k root:Nat) (d:Array α),hi-root≤k→first+hi≤d.size→d.size<1000000000→(root<hi∨hi≤1)→root≤d.size →
  ∃ r,oSiftDown.l0 cmp hi first d.toList root=some r∧(r = .inl (Go.Sort.siftDown lt hi first root d).toList∨r = .inr (Go.Sort.siftDown lt hi first root d).toList):=by
 intro k
 induction k with
 | zero =>
  intro root d h0 h1 h2 h3 h4;rw[oSiftDown.l0,wN (x:=2*(root:Int)) (k:=2*root) (by omega) (by omega),wN (x:=((2*root:Nat):Int)+1) (k:=2*root+1) (by omega) (by omega),if_pos (by simp;omega),Go.Sort.siftDown,dif_pos (by omega)];exact⟨_,rfl,.inr rfl⟩
 | succ k ih =>
  intro root d h0 h1 h2 h3 h4;rw[oSiftDown.l0,Go.Sort.siftDown,wN (x:=2*(root:Int)) (k:=2*root) (by omega) (by omega),wN (x:=((2*root:Nat):Int)+1) (k:=2*root+1) (by omega) (by omega)];by_cases hb:2*root+1≥hi
  ·rw[if_pos (by simp;omega),dif_pos hb];exact⟨_,rfl,.inr rfl⟩
  rw[if_neg (by simp;omega),dif_neg hb];rw[wN (x:=((2*root+1:Nat):Int)+1) (k:=2*root+2) (by omega) (by omega),wN (x:=(first:Int)+((2*root+1:Nat):Int)) (k:=first+(2*root+1)) (by omega) (by omega),wN (x:=((first+(2*root+1):Nat):Int)+1) (k:=first+(2*root+1)+1) (by omega) (by omega),wN (x:=(first:Int)+(root:Int)) (k:=first+root) (by omega) (by omega)];have fin:∀ ch:Nat,root<ch→ch<hi→∃ r,((at? d.toList ((first+root:Nat):Int))>>=fun b429=>(at? d.toList (IntKind.i64.wrap ((first:Int)+(ch:Int))))>>=fun b432=>(cmp b429 b432)>>=fun t435=>if(!t435)=true then(some (.inl d.toList)) else((at? (d.toList.set (Int.toNat ((first+root:Nat):Int)) b432) (IntKind.i64.wrap ((first:Int)+(ch:Int))))>>=fun b441=>oSiftDown.l0 cmp hi first ((d.toList.set (Int.toNat ((first+root:Nat):Int)) b432).set (Int.toNat (IntKind.i64.wrap ((first:Int)+(ch:Int)))) b429) ch))=some r ∧
    (r = .inl (if !lt d[first+root]! d[first+ch]! then d else Go.Sort.siftDown lt hi first ch (swp d (first+root) (first+ch))).toList∨r = .inr (if !lt d[first+root]! d[first+ch]! then d else Go.Sort.siftDown lt hi first ch (swp d (first+root) (first+ch))).toList):=by
   intro ch g1 g2;rw[wN (x:=(first:Int)+(ch:Int)) (k:=first+ch) (by omega) (by omega),atA (by omega),sb,atA (by omega),sb];obtain⟨c,e,hlt⟩:=hc d[first+root]! d[first+ch]!;rw[e,sb,hlt];cases hl:lt d[first+root]! d[first+ch]! with
   | false=>rw[if_pos (show(!false)=true from rfl),if_pos (show(!false)=true from rfl)];exact⟨_,rfl,.inl rfl⟩
   | true =>
    obtain⟨y,ey⟩:=atS (d:=d) (i:=first+root) (j:=first+ch) (x:=d[first+ch]!) (by omega);rw[if_neg (show ¬ (!true)=true from by simp),if_neg (show ¬ (!true)=true from by simp),ey,sb,setA];exact ih ch (swp d (first+root) (first+ch)) (by omega) (by rw[Z0s];exact h1) (by rw[Z0s];exact h2) (.inl g2) (by rw[Z0s];omega)
  by_cases h6:2*root+2<hi
  ·rw[if_pos (by simp;omega),atA (by omega),sb,atA (by omega),sb]
   obtain⟨c,e,hlt⟩:=hc d[first+(2*root+1)]! d[first+(2*root+1)+1]!;rw[e,sb,hlt,sb];cases hl:lt d[first+(2*root+1)]! d[first+(2*root+1)+1]! with
   | false =>
    rw[if_neg (by simp),sb,if_neg (by simp)];exact fin (2*root+1) (by omega) (by omega)
   | true =>
    rw[if_pos rfl,sb,if_pos (by simp;omega),dif_pos h6];exact fin (2*root+2) (by omega) (by omega)
  ·rw[if_neg (by simp;omega),sb,if_neg (by simp),sb,if_neg (by simp;omega)]
   exact fin (2*root+1) (by omega) (by omega)
theorem o_pq_sift (hc:CmpB cmp lt) (hi first root:Nat) (d:Array α) (h1:first+hi≤d.size) (h2:d.size<1000000000) (h3:root<hi∨hi≤1) (h4:root≤d.size):oSiftDown.f cmp d.toList root hi first=some (Go.Sort.siftDown lt hi first root d).toList:=by
 unfold oSiftDown.f;obtain⟨r,e,h⟩:=o_pq_sift_l0 hc hi first (hi-root) root d (Nat.le_refl _) h1 h2 h3 h4
 rw[e,sb];rcases h with rfl | rfl<;>rfl
theorem o_pq_heap_l0 (hc:CmpB cmp lt) (a b:Nat) (hab:a≤b):∀ (k:Nat) (d:Array α),b≤d.size→d.size<1000000000→(k≤b-a∨(k≤1∧b-a≤1)) →
  oHeapSort.l0 cmp a b d.toList ((k:Int)-1)=some (Go.Sort.heapBuild lt (b-a) a k d).toList∧(Go.Sort.heapBuild lt (b-a) a k d).size=d.size:=by
 intro k
 induction k with
 | zero=>intro d h1 h2 h3;rw[oHeapSort.l0,if_neg (by simp)];exact⟨rfl,rfl⟩
 | succ k ih =>
  intro d h1 h2 h3;have e0:((k+1:Nat):Int)-1=(k:Int):=by omega
  rw[e0,oHeapSort.l0,if_pos (by simp),wN (x:=(b:Int)-a) (k:=b-a) (by omega) (by omega),o_pq_sift hc (b-a) a k d (by omega) h2 (by omega) (by omega),sb,Z08 (by omega) (by omega),Go.Sort.heapBuild];have es:=Z6z lt (b-a) a (b-a-k) k d (Nat.le_refl _);obtain⟨i1,i2⟩:=ih (Go.Sort.siftDown lt (b-a) a k d) (by rw[es];exact h1) (by rw[es];exact h2) (by omega);exact⟨i1,i2.trans es⟩
theorem o_pq_heap_l1 (hc:CmpB cmp lt) (a n:Nat):∀ (k:Nat) (d:Array α),k≤n→a+n≤d.size→d.size<1000000000 →
  oHeapSort.l1 cmp a d.toList ((k:Int)-1)=some (Go.Sort.heapPop lt a k d).toList:=by
 intro k
 induction k with
 | zero=>intro d h0 h1 h2;rw[oHeapSort.l1,if_neg (by simp)];rfl
 | succ k ih =>
  intro d h0 h1 h2;have e0:((k+1:Nat):Int)-1=(k:Int):=by omega
  obtain⟨y,ey⟩:=atS (d:=d) (i:=a) (j:=a+k) (x:=d[a+k]!) (by omega);rw[e0,oHeapSort.l1,if_pos (by simp),wN (x:=(a:Int)+k) (k:=a+k) (by omega) (by omega),atA (by omega),sb,atA (by omega),sb,ey,sb,setA];have es:=Z6z lt k a k 0 (swp d a (a+k)) (by omega);rw[show oSiftDown.f cmp (swp d a (a+k)).toList 0 k a=_ from o_pq_sift hc k a 0 (swp d a (a+k)) (by rw[Z0s];omega) (by rw[Z0s];exact h2) (by omega) (by omega),sb,Z08 (by omega) (by omega),Go.Sort.heapPop];exact ih _ (by omega) (by rw[es,Z0s];exact h1) (by rw[es,Z0s];exact h2)
theorem o_pq_heap (hc:CmpB cmp lt) (d:Array α) (a b:Nat) (hab:a≤b) (hb:b≤d.size) (hd:d.size<1000000000):oHeapSort.f cmp d.toList a b=some (Go.Sort.heapSort lt d a b).toList:=by
 unfold oHeapSort.f Go.Sort.heapSort;rw[wN (x:=(b:Int)-a) (k:=b-a) (by omega) (by omega),Z08 (n:=((b-a:Nat):Int)-1) (by omega) (by omega)];have e:IntKind.i64.wrap (Int.tdiv (((b-a:Nat):Int)-1) 2)=(((b-a-1) / 2+1:Nat):Int)-1:=by
  by_cases h:b-a=0
  ·rw[h];rfl
  ·rw[Int.tdiv_eq_ediv_of_nonneg (by omega),Z08 (by omega) (by omega)];omega
 obtain⟨i1,i2⟩:=o_pq_heap_l0 hc a b hab ((b-a-1) / 2+1) d hb hd (by omega);rw[e,i1,sb,o_pq_heap_l1 hc a (b-a) (b-a) _ (Nat.le_refl _) (by rw[i2];omega) (by rw[i2];exact hd),sb]
theorem Z9c (hc:CmpB cmp lt) (d:Array α) (a b s:Nat) (ha:a<d.size) (hb:b<d.size) (hs:s<1000):oOrder2.f cmp d.toList a b s=some (((Go.Sort.order2 lt d a b s).1:Int),((Go.Sort.order2 lt d a b s).2.1:Int),((Go.Sort.order2 lt d a b s).2.2:Int)):=by
 unfold oOrder2.f Go.Sort.order2;obtain⟨c,e,hlt⟩:=hc d[b]! d[a]!;rw[atA hb,sb,atA ha,sb,e,sb,hlt,wN (x:=(s:Int)+1) (k:=s+1) (by omega) (by omega)];cases lt d[b]! d[a]!<;>rfl
theorem o_pq_med (hc:CmpB cmp lt) (d:Array α) (a b c s:Nat) (ha:a<d.size) (hb:b<d.size) (hcc:c<d.size) (hs:s<900):oMedian.f cmp d.toList a b c s=some (((Go.Sort.median lt d a b c s).1:Int),((Go.Sort.median lt d a b c s).2:Int)):=by
 unfold oMedian.f Go.Sort.median;have s1:=Z5w (lt:=lt) d a b s;have l1:=order2_lt (lt:=lt) (d:=d) (s:=s) ha hb;rw[Z9c hc d a b s ha hb (by omega),sb];have s2:=Z5w (lt:=lt) d (Go.Sort.order2 lt d a b s).2.1 c (Go.Sort.order2 lt d a b s).2.2;have l2:=order2_lt (lt:=lt) (d:=d) (s:=(Go.Sort.order2 lt d a b s).2.2) l1.2 hcc
 try dsimp only
 rw[Z9c hc d _ c _ l1.2 hcc (by omega),sb]
 try dsimp only
 rw[Z9c hc d _ _ _ l1.1 l2.1 (by omega),sb]
theorem Z9d (hc:CmpB cmp lt) (d:Array α) (a s:Nat) (h1:1≤a) (ha:a+1<d.size) (hd:d.size<1000000000) (hs:s<900):oMedianAdjacent.f cmp d.toList a s=some (((Go.Sort.medianAdjacent lt d a s).1:Int),((Go.Sort.medianAdjacent lt d a s).2:Int)):=by
 unfold oMedianAdjacent.f Go.Sort.medianAdjacent;rw[wN (x:=(a:Int)-1) (k:=a-1) (by omega) (by omega),wN (x:=(a:Int)+1) (k:=a+1) (by omega) (by omega),o_pq_med hc d _ _ _ _ (by omega) (by omega) (by omega) hs,sb]
theorem o_pq_piv (hc:CmpB cmp lt) (d:Array α) (a b:Nat) (hab:a<b) (hb:b≤d.size) (hd:d.size<1000000000):oChoosePivot.f cmp d.toList a b=some (((Go.Sort.choosePivot lt d a b).1:Int),hnt (Go.Sort.choosePivot lt d a b).2):=by
 rw[cpv];unfold oChoosePivot.f;obtain⟨l,el⟩:∃ l,l=b-a:=⟨_,rfl⟩
 have q:IntKind.i64.wrap (Int.tdiv ((l:Nat):Int) 4)=((l / 4:Nat):Int):=by
  rw[Int.tdiv_eq_ediv_of_nonneg (by omega)];exact wN (by omega) (by omega)
 rw[wN (x:=(b:Int)-a) (k:=l) (by omega) (by omega),q,← el];rw[wN (x:=((l / 4:Nat):Int)*1) (k:=l / 4*1) (by omega) (by omega),wN (x:=((l / 4:Nat):Int)*2) (k:=l / 4*2) (by omega) (by omega),wN (x:=((l / 4:Nat):Int)*3) (k:=l / 4*3) (by omega) (by omega)];rw[wN (x:=(a:Int)+((l / 4*1:Nat):Int)) (k:=a+l / 4*1) (by omega) (by omega),wN (x:=(a:Int)+((l / 4*2:Nat):Int)) (k:=a+l / 4*2) (by omega) (by omega),wN (x:=(a:Int)+((l / 4*3:Nat):Int)) (k:=a+l / 4*3) (by omega) (by omega)];have fin:∀ (p s:Nat),(if((s:Int)==(0:Int))=true then(some ((p:Int),(1:Int))) else(if((s:Int)==(12:Int))=true then(some ((p:Int),2)) else(some ((p:Int),0))))=some ((p:Int),hnt (if s=0 then .increasing else if s=12 then .decreasing else .unknown)):=by
  intro p s;by_cases h0:s=0
  ·subst h0;rfl
  ·rw[if_neg (by simp;omega),if_neg h0]
   by_cases h1:s=12
   ·subst h1;rfl
   ·rw[if_neg (by simp;omega),if_neg h1];rfl
 by_cases h8:l≥8
 ·rw[if_pos (by simp;omega),if_pos h8]
  by_cases h50:l≥50
  ·rw[if_pos (by simp;omega),if_pos h50]
   have m1:=Go.Sort.medianAdjacent_mem lt d (a+l / 4*1) 0;have w1:(Go.Sort.medianAdjacent lt d (a+l / 4*1) 0).2≤3:=Z9f d _ _ _ _;rw[show oMedianAdjacent.f cmp d.toList ((a+l / 4*1:Nat):Int) 0=_ from Z9d hc d (a+l / 4*1) 0 (by omega) (by omega) hd (by omega),sb];generalize Go.Sort.medianAdjacent lt d (a+l / 4*1) 0=r1 at *;have m2:=Go.Sort.medianAdjacent_mem lt d (a+l / 4*2) r1.2;have w2:(Go.Sort.medianAdjacent lt d (a+l / 4*2) r1.2).2≤r1.2+3:=Z9f d _ _ _ _
   try dsimp only
   rw[Z9d hc d (a+l / 4*2) r1.2 (by omega) (by omega) hd (by omega),sb];generalize Go.Sort.medianAdjacent lt d (a+l / 4*2) r1.2=r2 at *;have m3:=Go.Sort.medianAdjacent_mem lt d (a+l / 4*3) r2.2;have w3:(Go.Sort.medianAdjacent lt d (a+l / 4*3) r2.2).2≤r2.2+3:=Z9f d _ _ _ _
   try dsimp only
   rw[Z9d hc d (a+l / 4*3) r2.2 (by omega) (by omega) hd (by omega),sb];generalize Go.Sort.medianAdjacent lt d (a+l / 4*3) r2.2=r3 at *
   try dsimp only
   rw[sb]
   try dsimp only
   rw[o_pq_med hc d r1.1 r2.1 r3.1 r3.2 (by omega) (by omega) (by omega) (by omega),sb,sb];exact fin _ _
  ·rw[if_neg (by simp;omega),if_neg h50,sb]
   try dsimp only
   rw[show oMedian.f cmp d.toList ((a+l / 4*1:Nat):Int) ((a+l / 4*2:Nat):Int) ((a+l / 4*3:Nat):Int) 0=_ from o_pq_med hc d (a+l / 4*1) (a+l / 4*2) (a+l / 4*3) 0 (by omega) (by omega) (by omega) (by omega),sb,sb];exact fin _ _
 ·rw[if_neg (by simp;omega),if_neg h8,sb]
  exact fin (a+l / 4*2) 0
theorem o_pq_pi_l1 (hc:CmpB cmp lt) (a1 x810:Int) (b:Nat) (d:Array α) (hb:b≤d.size) (hd:d.size<1000000000):∀ (k i:Nat),b-i≤k→1≤i→i≤d.size →
  oPartialInsertionSort.l1 cmp a1 b d.toList x810 i=some (Go.Sort.scanSorted lt d b i:Int):=by
 intro k
 induction k with
 | zero =>
  intro i h0 h1 h2;rw[oPartialInsertionSort.l1,if_neg (by simp;omega),sb,if_neg (by simp),Go.Sort.scanSorted,if_neg (by simp;omega)]
 | succ k ih =>
  intro i h0 h1 h2;rw[oPartialInsertionSort.l1,Go.Sort.scanSorted];by_cases h:i<b
  ·rw[if_pos (by simp;omega),atA (by omega),sb,wN (x:=(i:Int)-1) (k:=i-1) (by omega) (by omega),atA (by omega),sb]
   obtain⟨c,e,hlt⟩:=hc d[i]! d[i-1]!;rw[e,sb,hlt,sb];cases hl:lt d[i]! d[i-1]! with
   | true=>rw[if_neg (by simp),if_neg (by simp)]
   | false =>
    rw[if_pos (show(!false)=true from rfl),if_pos (by simp;omega),wN (x:=(i:Int)+1) (k:=i+1) (by omega) (by omega)];exact ih (i+1) (by omega) (by omega) (by omega)
  ·rw[if_neg (by simp;omega),sb,if_neg (by simp),if_neg (by simp;omega)]
theorem o_pq_pi_l2 (hc:CmpB cmp lt) (a1 a2 x810 x853:Int):∀ (j:Nat) (d:Array α),j<d.size→d.size<1000000000 →
  oPartialInsertionSort.l2 cmp a1 a2 x810 x853 d.toList j=some (Go.Sort.shiftDown lt j d).toList:=by
 intro j
 induction j with
 | zero=>intro d h1 h2;rw[oPartialInsertionSort.l2,if_neg (by simp)];rfl
 | succ j ih =>
  intro d h1 h2;have e1:IntKind.i64.wrap (((j+1:Nat):Int)-1)=(j:Int):=wN (by omega) (by omega);rw[oPartialInsertionSort.l2,e1,if_pos (by simp;omega),atA h1,sb,atA (by omega),sb,Go.Sort.shiftDown];obtain⟨c,e,hlt⟩:=hc d[j+1]! d[j]!;rw[e,sb,hlt];cases hl:lt d[j+1]! d[j]! with
  | false=>rw[if_pos (show(!false)=true from rfl),if_pos (show(!false)=true from rfl)]
  | true =>
   obtain⟨y,ey⟩:=atS (d:=d) (i:=j+1) (j:=j) (x:=d[j]!) (by omega);rw[if_neg (show ¬ (!true)=true by simp),if_neg (show ¬ (!true)=true by simp),ey,sb,setA];exact ih (swp d (j+1) j) (by rw[Z0s];omega) (by rw[Z0s];exact h2)
theorem o_pq_pi_l3 (hc:CmpB cmp lt) (a1 x810 x853:Int) (b:Nat):∀ (k j:Nat) (d:Array α),b-j≤k→1≤j→b≤d.size→d.size<1000000000 →
  oPartialInsertionSort.l3 cmp a1 b x810 x853 d.toList j=some (Go.Sort.shiftUp lt b j d).toList:=by
 intro k
 induction k with
 | zero=>intro j d h0 h1 h2 h3;rw[oPartialInsertionSort.l3,if_neg (by simp;omega),Go.Sort.shiftUp,if_neg (by omega)]
 | succ k ih =>
  intro j d h0 h1 h2 h3;rw[oPartialInsertionSort.l3,Go.Sort.shiftUp];by_cases h:j<b
  ·rw[if_pos (by simp;omega),if_pos h,atA (by omega),sb,wN (x:=(j:Int)-1) (k:=j-1) (by omega) (by omega),atA (by omega),sb]
   obtain⟨c,e,hlt⟩:=hc d[j]! d[j-1]!;rw[e,sb,hlt];cases hl:lt d[j]! d[j-1]! with
   | false=>rw[if_pos (show(!false)=true from rfl),if_pos (show(!false)=true from rfl)]
   | true =>
    obtain⟨y,ey⟩:=atS (d:=d) (i:=j) (j:=j-1) (x:=d[j-1]!) (by omega);rw[if_neg (show ¬ (!true)=true by simp),if_neg (show ¬ (!true)=true by simp),ey,sb,setA,wN (x:=(j:Int)+1) (k:=j+1) (by omega) (by omega)];exact ih (j+1) _ (by omega) (by omega) (by rw[Z0s];exact h2) (by rw[Z0s];exact h3)
  ·rw[if_neg (by simp;omega),if_neg h]
theorem o_pq_pi_l0 (hc:CmpB cmp lt) (a b:Nat) (hab:a<b):∀ (s i:Nat) (d:Array α) (m:Int),m+s=5→0≤m→a+1≤i→i≤b→b≤d.size→d.size<1000000000 →
  ∃ r,oPartialInsertionSort.l0 cmp a b d.toList i m=some r∧((r = .inl ((Go.Sort.partialIns lt a b s i d).2,(Go.Sort.partialIns lt a b s i d).1.toList))∨(r = .inr (Go.Sort.partialIns lt a b s i d).1.toList∧(Go.Sort.partialIns lt a b s i d).2=false)):=by
 intro s
 induction s with
 | zero=>intro i d m h0 h00 h1 h2 h3 h4;rw[oPartialInsertionSort.l0,if_neg (by simp;omega)];exact⟨_,rfl,.inr ⟨rfl,rfl⟩⟩
 | succ s ih =>
  intro i d m h0 h00 h1 h2 h3 h4;have sr:=Z8b lt d b (b-i) i (Nat.le_refl _);have sr2:=sr.2 h2;rw[oPartialInsertionSort.l0,if_pos (by simp;omega),o_pq_pi_l1 hc a m b d h3 h4 (b-i) i (Nat.le_refl _) (by omega) (by omega),sb,Go.Sort.partialIns_succ];generalize Go.Sort.scanSorted lt d b i=q at *;by_cases e1:q=b
  ·rw[if_pos (by simp[e1]),if_pos e1];exact⟨_,rfl,.inl rfl⟩
  rw[if_neg (by simp;omega),if_neg e1,wN (x:=(b:Int)-a) (k:=b-a) (by omega) (by omega)];by_cases e2:b-a<50
  ·rw[if_pos (by simp;omega),if_pos e2];exact⟨_,rfl,.inl rfl⟩
  rw[if_neg (by simp;omega),if_neg e2];obtain⟨y,ey⟩:=atS (d:=d) (i:=q) (j:=q-1) (x:=d[q-1]!) (by omega);rw[wN (x:=(q:Int)-1) (k:=q-1) (by omega) (by omega),atA (by omega),sb,atA (by omega),sb,ey,sb,setA];rw[wN (x:=(q:Int)-a) (k:=q-a) (by omega) (by omega),wN (x:=(b:Int)-q) (k:=b-q) (by omega) (by omega),wN (x:=(q:Int)+1) (k:=q+1) (by omega) (by omega),Z08 (n:=m+1) (by omega) (by omega)];have A:((if(decide (((q-a:Nat):Int)≥(2:Int)))=true then((oPartialInsertionSort.l2 cmp a b m q (swp d q (q-1)).toList ((q-1:Nat):Int))>>=fun x925=>some x925) else(some (swp d q (q-1)).toList)):Option (List α))=some (if q-a≥2 then Go.Sort.shiftDown lt (q-1) (swp d q (q-1)) else swp d q (q-1)).toList:=by
   by_cases c:q-a≥2
   ·rw[if_pos (by simp;omega),if_pos c,o_pq_pi_l2 hc _ _ _ _ (q-1) _ (by rw[Z0s];omega) (by rw[Z0s];exact h4),sb]
   ·rw[if_neg (by simp;omega),if_neg c]
  rw[A,sb];obtain⟨d2,e5⟩:∃ d2,d2=(if q-a≥2 then Go.Sort.shiftDown lt (q-1) (swp d q (q-1)) else swp d q (q-1)):=⟨_,rfl⟩
  have z2 : d2.size = d.size := by rw [e5]; split
                                   ·rw[Z6g,Z0s]
                                   ·rw[Z0s]
  rw[← e5];have B:((if(decide (((b-q:Nat):Int)≥(2:Int)))=true then((oPartialInsertionSort.l3 cmp a b m q d2.toList ((q+1:Nat):Int))>>=fun x978=>some x978) else(some d2.toList)):Option (List α))=some (if b-q≥2 then Go.Sort.shiftUp lt b (q+1) d2 else d2).toList:=by
   by_cases c:b-q≥2
   ·rw[if_pos (by simp;omega),if_pos c,o_pq_pi_l3 hc _ _ _ b (b-(q+1)) (q+1) d2 (Nat.le_refl _) (by omega) (by omega) (by omega),sb]
   ·rw[if_neg (by simp;omega),if_neg c]
  rw[B,sb];obtain⟨d3,e6⟩:∃ d3,d3=(if b-q≥2 then Go.Sort.shiftUp lt b (q+1) d2 else d2):=⟨_,rfl⟩
  have z3 : d3.size = d.size := by rw [e6]; split
                                   ·rw[shiftUp_size lt b _ _ _ (Nat.le_refl _),z2]
                                   ·exact z2
  rw[← e6,show Go.Sort.fixUp lt b q (Go.Sort.fixDown lt a q (swp d q (q-1)))=d3 from by rw[e6,e5];rfl];exact ih q d3 (m+1) (by omega) (by omega) (by omega) (by omega) (by omega) (by omega)
theorem o_pq_pi (hc:CmpB cmp lt) (d:Array α) (a b:Nat) (hab:a<b) (hb:b≤d.size) (hd:d.size<1000000000):oPartialInsertionSort.f cmp d.toList a b=some ((Go.Sort.partialInsertionSort lt d a b).2,(Go.Sort.partialInsertionSort lt d a b).1.toList):=by
 unfold oPartialInsertionSort.f Go.Sort.partialInsertionSort;obtain⟨r,e,h⟩:=o_pq_pi_l0 hc a b hab 5 (a+1) d 0 (by decide) (by decide) (Nat.le_refl _) (by omega) hb hd;rw[wN (x:=(a:Int)+1) (k:=a+1) (by omega) (by omega),e,sb];rcases h with rfl | ⟨rfl,h⟩
 ·rfl
 ·rw[h]
theorem Zaf (hc:CmpB cmp lt) (a j:Nat) (d:Array α) (ha:a<d.size) (hj:j<d.size) (hd:d.size<1000000000) (i:Nat) :
  oPartitionEqual.l1 cmp a d.toList j i=some (Go.Sort.scanUp (fun x => !lt d[a]! x) d j i:Int):=by
 refine scan_up (fun x => !lt d[a]! x) d j (oPartitionEqual.l1 cmp a d.toList j) (fun i h => ?_) (fun i h => ?_) (j+1-i) i (Nat.le_refl _)
 ·rw[oPartitionEqual.l1,if_pos (by simp;omega),atA ha,sb,atA (by omega),sb]
  obtain⟨c,e,hlt⟩:=hc d[a]! d[i]!;rw[e,sb,hlt,sb,wN (x:=(i:Int)+1) (k:=i+1) (by omega) (by omega)]
 ·rw[oPartitionEqual.l1,if_neg (by simp;omega),sb,if_neg (by simp)]
theorem Zae (hc:CmpB cmp lt) (a j:Nat) (d:Array α) (ha:a<d.size) (hj:j<d.size) (hd:d.size<1000000000) (i:Nat) (hi:1≤i) :
  oPartitionEqual.l2 cmp a d.toList i j=some (Go.Sort.scanDown (fun x=>lt d[a]! x) d i j:Int):=by
 refine Z8x (fun x=>lt d[a]! x) d i hi (oPartitionEqual.l2 cmp a d.toList i) j (fun j' h h' => ?_) (fun j' h => ?_)
 ·rw[oPartitionEqual.l2,if_pos (by simp;omega),atA ha,sb,atA (by omega),sb]
  obtain⟨c,e,hlt⟩:=hc d[a]! d[j']!;rw[e,sb,hlt,sb,wN (x:=(j':Int)-1) (k:=j'-1) (by omega) (by omega)]
 ·rw[oPartitionEqual.l2,if_neg (by simp;omega),sb,if_neg (by simp)]
theorem o_pq_pe_l0 (hc:CmpB cmp lt) (a:Nat):∀ (k i j:Nat) (d:Array α),j+1-i≤k→1≤i→a<d.size→j<d.size→d.size<1000000000 →
  oPartitionEqual.l0 cmp a d.toList i j=some (((Go.Sort.partEqLoop lt a i j d).1:Int),(Go.Sort.partEqLoop lt a i j d).2.toList):=by
 intro k
 induction k with
 | zero =>
  intro i j d h0 h1 ha hj hd;have su:=(Go.Sort.scanUp_spec (fun x => !lt d[a]! x) d j _ i rfl).1;have sd:=(Go.Sort.scanDown_spec (fun x=>lt d[a]! x) d (Go.Sort.scanUp (fun x => !lt d[a]! x) d j i) j).1;rw[oPartitionEqual.l0,Zaf hc a j d ha hj hd,sb,Zae hc a j d ha hj hd _ (by omega),sb,Go.Sort.partEqLoop_eq];rw[if_pos (by simp;omega),if_pos (by omega)]
 | succ k ih =>
  intro i j d h0 h1 ha hj hd;have su:=(Go.Sort.scanUp_spec (fun x => !lt d[a]! x) d j _ i rfl).1;have sd:=(Go.Sort.scanDown_spec (fun x=>lt d[a]! x) d (Go.Sort.scanUp (fun x => !lt d[a]! x) d j i) j).1;rw[oPartitionEqual.l0,Zaf hc a j d ha hj hd,sb,Zae hc a j d ha hj hd _ (by omega),sb,Go.Sort.partEqLoop_eq];generalize Go.Sort.scanUp (fun x => !lt d[a]! x) d j i=p at *;generalize Go.Sort.scanDown (fun x=>lt d[a]! x) d p j=q at *;by_cases c:p>q
  ·rw[if_pos (by simp;omega),if_pos c]
  ·obtain⟨y,ey⟩:=atS (d:=d) (i:=p) (j:=q) (x:=d[q]!) (by omega)
   rw[if_neg (by simp;omega),if_neg c,atA (by omega),sb,atA (by omega),sb,ey,sb,setA,wN (x:=(p:Int)+1) (k:=p+1) (by omega) (by omega),wN (x:=(q:Int)-1) (k:=q-1) (by omega) (by omega)];exact ih (p+1) (q-1) (swp d p q) (by omega) (by omega) (by rw[Z0s];exact ha) (by rw[Z0s];omega) (by rw[Z0s];exact hd)
theorem o_pq_pe (hc:CmpB cmp lt) (d:Array α) (a b p:Nat) (ha:a≤p) (hp:p<b) (hb:b≤d.size) (hd:d.size<1000000000) :
  oPartitionEqual.f cmp d.toList a b p=some (((Go.Sort.partitionEqual lt d a b p).1:Int),(Go.Sort.partitionEqual lt d a b p).2.toList):=by
 unfold oPartitionEqual.f Go.Sort.partitionEqual;obtain⟨y,ey⟩:=atS (d:=d) (i:=a) (j:=p) (x:=d[p]!) (by omega);rw[atA (by omega),sb,atA (by omega),sb,ey,sb,setA,wN (x:=(a:Int)+1) (k:=a+1) (by omega) (by omega),wN (x:=(b:Int)-1) (k:=b-1) (by omega) (by omega)];rw[o_pq_pe_l0 hc a (b-1+1-(a+1)) (a+1) (b-1) (swp d a p) (Nat.le_refl _) (by omega) (by rw[Z0s];omega) (by rw[Z0s];omega) (by rw[Z0s];exact hd),sb]
theorem o_pq_pt_l0 (hc:CmpB cmp lt) (a b p:Nat) (d0:Array α) (ha:a<d0.size) (hb:b≤d0.size) (hb0:1≤b) (hp:p<d0.size) (hd:d0.size<1000000000) (i:Nat) :
  oPartition.l0 cmp d0.toList a b p d0[p]! d0[a]! i=some (Go.Sort.scanUp (fun x=>lt x (swp d0 a p)[a]!) (swp d0 a p) (b-1) i:Int):=by
 have z:=Z0s d0 a p;refine scan_up (fun x=>lt x (swp d0 a p)[a]!) (swp d0 a p) (b-1) (oPartition.l0 cmp d0.toList a b p d0[p]! d0[a]!) (fun i h => ?_) (fun i h => ?_) (b-1+1-i) i (Nat.le_refl _)
 ·rw[oPartition.l0,setA,wN (x:=(b:Int)-1) (k:=b-1) (by omega) (by omega),if_pos (by simp;omega),atA (by omega),sb,atA (by omega),sb]
  obtain⟨c,e,hlt⟩:=hc (swp d0 a p)[i]! (swp d0 a p)[a]!;rw[e,sb,hlt,sb,wN (x:=(i:Int)+1) (k:=i+1) (by omega) (by omega)]
 ·rw[oPartition.l0,wN (x:=(b:Int)-1) (k:=b-1) (by omega) (by omega),if_neg (by simp;omega),sb,if_neg (by simp)]
theorem o_pq_pt_l1 (hc:CmpB cmp lt) (a p:Nat) (d0:Array α) (ha:a<d0.size) (hp:p<d0.size) (hd:d0.size<1000000000) (i:Nat) (hi:1≤i) (j:Nat) (hj:j<d0.size) :
  oPartition.l1 cmp d0.toList a p d0[p]! d0[a]! i j=some (Go.Sort.scanDown (fun x => !lt x (swp d0 a p)[a]!) (swp d0 a p) i j:Int):=by
 have z:=Z0s d0 a p;refine Z8x (fun x => !lt x (swp d0 a p)[a]!) (swp d0 a p) i hi (oPartition.l1 cmp d0.toList a p d0[p]! d0[a]! i) j (fun j' h h' => ?_) (fun j' h => ?_)
 ·rw[oPartition.l1,setA,if_pos (by simp;omega),atA (by omega),sb,atA (by omega),sb]
  obtain⟨c,e,hlt⟩:=hc (swp d0 a p)[j']! (swp d0 a p)[a]!;rw[e,sb,hlt,sb,wN (x:=(j':Int)-1) (k:=j'-1) (by omega) (by omega)]
 ·rw[oPartition.l1,if_neg (by simp;omega),sb,if_neg (by simp)]
theorem Zad (hc:CmpB cmp lt) (a j:Nat) (d:Array α) (ha:a<d.size) (hj:j<d.size) (hd:d.size<1000000000) (i:Nat) :
  oPartition.l3 cmp a d.toList j i=some (Go.Sort.scanUp (fun x=>lt x d[a]!) d j i:Int):=by
 refine scan_up (fun x=>lt x d[a]!) d j (oPartition.l3 cmp a d.toList j) (fun i h => ?_) (fun i h => ?_) (j+1-i) i (Nat.le_refl _)
 ·rw[oPartition.l3,if_pos (by simp;omega),atA (by omega),sb,atA ha,sb]
  obtain⟨c,e,hlt⟩:=hc d[i]! d[a]!;rw[e,sb,hlt,sb,wN (x:=(i:Int)+1) (k:=i+1) (by omega) (by omega)]
 ·rw[oPartition.l3,if_neg (by simp;omega),sb,if_neg (by simp)]
theorem Zac (hc:CmpB cmp lt) (a j:Nat) (d:Array α) (ha:a<d.size) (hj:j<d.size) (hd:d.size<1000000000) (i:Nat) (hi:1≤i) :
  oPartition.l4 cmp a d.toList i j=some (Go.Sort.scanDown (fun x => !lt x d[a]!) d i j:Int):=by
 refine Z8x (fun x => !lt x d[a]!) d i hi (oPartition.l4 cmp a d.toList i) j (fun j' h h' => ?_) (fun j' h => ?_)
 ·rw[oPartition.l4,if_pos (by simp;omega),atA (by omega),sb,atA ha,sb]
  obtain⟨c,e,hlt⟩:=hc d[j']! d[a]!;rw[e,sb,hlt,sb,wN (x:=(j':Int)-1) (k:=j'-1) (by omega) (by omega)]
 ·rw[oPartition.l4,if_neg (by simp;omega),sb,if_neg (by simp)]
theorem o_pq_pt_l2 (hc:CmpB cmp lt) (a:Nat):∀ (k i j:Nat) (d:Array α),j+1-i≤k→1≤i→a<d.size→j<d.size→d.size<1000000000 →
  oPartition.l2 cmp a d.toList i j=some ((Go.Sort.partLoop lt a i j d).2.toList,((Go.Sort.partLoop lt a i j d).1:Int))∧(Go.Sort.partLoop lt a i j d).1<d.size∧(Go.Sort.partLoop lt a i j d).2.size=d.size:=by
 intro k
 induction k with
 | zero =>
  intro i j d h0 h1 ha hj hd;have su:=(Go.Sort.scanUp_spec (fun x=>lt x d[a]!) d j _ i rfl).1;have sd:=(Go.Sort.scanDown_spec (fun x => !lt x d[a]!) d (Go.Sort.scanUp (fun x=>lt x d[a]!) d j i) j).1;rw[oPartition.l2,Zad hc a j d ha hj hd,sb,Zac hc a j d ha hj hd _ (by omega),sb,Go.Sort.partLoop_eq];rw[if_pos (by simp;omega),if_pos (by omega)];exact⟨rfl,by show _<_;omega,rfl⟩
 | succ k ih =>
  intro i j d h0 h1 ha hj hd;have su:=(Go.Sort.scanUp_spec (fun x=>lt x d[a]!) d j _ i rfl).1;have sd:=(Go.Sort.scanDown_spec (fun x => !lt x d[a]!) d (Go.Sort.scanUp (fun x=>lt x d[a]!) d j i) j).1;rw[oPartition.l2,Zad hc a j d ha hj hd,sb,Zac hc a j d ha hj hd _ (by omega),sb,Go.Sort.partLoop_eq];generalize Go.Sort.scanUp (fun x=>lt x d[a]!) d j i=p at *;generalize Go.Sort.scanDown (fun x => !lt x d[a]!) d p j=q at *;by_cases c:p>q
  ·rw[if_pos (by simp;omega),if_pos c]
   exact⟨rfl,by show q<d.size;omega,rfl⟩
  ·obtain⟨y,ey⟩:=atS (d:=d) (i:=p) (j:=q) (x:=d[q]!) (by omega)
   rw[if_neg (by simp;omega),if_neg c,atA (by omega),sb,atA (by omega),sb,ey,sb,setA,wN (x:=(p:Int)+1) (k:=p+1) (by omega) (by omega),wN (x:=(q:Int)-1) (k:=q-1) (by omega) (by omega)];have:=ih (p+1) (q-1) (swp d p q) (by omega) (by omega) (by rw[Z0s];exact ha) (by rw[Z0s];omega) (by rw[Z0s];exact hd);rw[Z0s] at this;exact this
theorem o_pq_pt (hc:CmpB cmp lt) (d:Array α) (a b p:Nat) (ha:a≤p) (hp:p<b) (hb:b≤d.size) (hd:d.size<1000000000) :
  oPartition.f cmp d.toList a b p=some (((Go.Sort.partition lt d a b p).1:Int),(Go.Sort.partition lt d a b p).2.1,(Go.Sort.partition lt d a b p).2.2.toList):=by
 have z:=Z0s d a p;have su:=(Go.Sort.scanUp_spec (fun x=>lt x (swp d a p)[a]!) (swp d a p) (b-1) _ (a+1) rfl).1;have sd:=(Go.Sort.scanDown_spec (fun x => !lt x (swp d a p)[a]!) (swp d a p) (Go.Sort.scanUp (fun x=>lt x (swp d a p)[a]!) (swp d a p) (b-1) (a+1)) (b-1)).1;unfold oPartition.f Go.Sort.partition;obtain⟨y,ey⟩:=atS (d:=d) (i:=a) (j:=p) (x:=d[p]!) (by omega);rw[atA (by omega),sb,atA (by omega),sb,ey,sb,wN (x:=(a:Int)+1) (k:=a+1) (by omega) (by omega),wN (x:=(b:Int)-1) (k:=b-1) (by omega) (by omega),o_pq_pt_l0 hc a b p d (by omega) hb (by omega) (by omega) hd,sb,o_pq_pt_l1 hc a p d (by omega) (by omega) hd _ (by omega) _ (by omega),sb,setA]
 try dsimp only
 generalize Go.Sort.scanUp (fun x=>lt x (swp d a p)[a]!) (swp d a p) (b-1) (a+1)=i at *;generalize Go.Sort.scanDown (fun x => !lt x (swp d a p)[a]!) (swp d a p) i (b-1)=j at *;generalize swp d a p=d1 at *;by_cases c:i>j
 ·obtain⟨y2,ey2⟩:=atS (d:=d1) (i:=j) (j:=a) (x:=d1[a]!) (by omega)
  rw[if_pos (by simp;omega),if_pos c,atA (by omega),sb,atA (by omega),sb,ey2,sb,setA]
 ·obtain⟨y2,ey2⟩:=atS (d:=d1) (i:=i) (j:=j) (x:=d1[j]!) (by omega)
  rw[if_neg (by simp;omega),if_neg c,atA (by omega),sb,atA (by omega),sb,ey2,sb,setA,wN (x:=(i:Int)+1) (k:=i+1) (by omega) (by omega),wN (x:=(j:Int)-1) (k:=j-1) (by omega) (by omega)];obtain⟨e,l1,l2⟩:=o_pq_pt_l2 hc a (j-1+1-(i+1)) (i+1) (j-1) (swp d1 i j) (Nat.le_refl _) (by omega) (by rw[Z0s];omega) (by rw[Z0s];omega) (by rw[Z0s];omega);rw[Z0s] at l1 l2;rw[e,sb];generalize Go.Sort.partLoop lt a (i+1) (j-1) (swp d1 i j)=r at *;obtain⟨y3,ey3⟩:=atS (d:=r.2) (i:=r.1) (j:=a) (x:=r.2[a]!) (by omega)
  try dsimp only
  rw[atA (by omega),sb,atA (by omega),sb,ey3,sb,setA]
theorem o_pq_main (hc:CmpB cmp lt) (hS:Go.Sort.SWO lt):∀ (n K:Nat) (d:Array α) (a b limit:Nat) (wb wp:Bool),b-a≤n→a≤b→b≤d.size→d.size<1000000000→limit<1000000000→Go.Sort.Below lt a b d→Go.Sort.bitsLen (b-a)≤K →
  oPdqsort.l0 cmp (oPdqsort.fu cmp K) d.toList a b limit wb wp=some (Go.Sort.pdq lt d a b limit wb wp).toList:=by
 intro n
 induction n with
 | zero =>
  intro K d a b limit wb wp hn hab hb hd hlim hB hK;rw[oPdqsort.l0,wN (x:=(b:Int)-a) (k:=b-a) (by omega) (by omega),if_pos (by simp;omega),o_pq_ins hc d a b hab hb hd,sb,sb,Go.Sort.pdq,if_pos (by omega)]
 | succ n ih =>
  intro K d a b limit wb wp hn hab hb hd hlim hB hK;by_cases h12:b-a≤12
  ·rw[oPdqsort.l0,wN (x:=(b:Int)-a) (k:=b-a) (by omega) (by omega),if_pos (by simp;omega),o_pq_ins hc d a b hab hb hd,sb,sb,Go.Sort.pdq,if_pos h12]
  by_cases hl:limit=0
  ·rw[oPdqsort.l0,wN (x:=(b:Int)-a) (k:=b-a) (by omega) (by omega),if_neg (by simp;omega),if_pos (by simp[hl]),o_pq_heap hc d a b hab hb hd,sb,sb,Go.Sort.pdq,if_neg h12,if_pos hl]
  obtain⟨d1,e1⟩:∃ x,x=if wb=true then d else Go.Sort.breakPatterns d a b:=⟨_,rfl⟩
  obtain⟨lim,e2⟩:∃ x,x=if wb=true then limit else limit-1:=⟨_,rfl⟩
  obtain⟨c,e3⟩:∃ x,x=Go.Sort.choosePivot lt d1 a b:=⟨_,rfl⟩
  obtain⟨d2,e4⟩:∃ x,x=if c.2 = .decreasing then Go.Sort.reverseRange d1 a b else d1:=⟨_,rfl⟩
  obtain⟨pv,e5⟩:∃ x,x=if c.2 = .decreasing then(b-1)-(c.1-a) else c.1:=⟨_,rfl⟩
  obtain⟨hint,e6⟩:∃ x,x=if c.2 = .decreasing then Go.Sort.Hint.increasing else c.2:=⟨_,rfl⟩
  obtain⟨pi,e7⟩:∃ x,x=if(wb&&wp&&decide (hint = .increasing))=true then Go.Sort.partialInsertionSort lt d2 a b else(d2,false):=⟨_,rfl⟩
  have s1:Go.Sort.PermIn a b d d1:=by
   rw[e1];split
   ·exact Go.Sort.permIn_refl d a b
   ·exact Go.Sort.breakPatterns_holds d a b hab hb
  have b1:b≤d1.size:=by rw[s1.1];exact hb
  have z1:d1.size<1000000000:=by rw[s1.1];exact hd
  have s2:Go.Sort.PermIn a b d1 d2:=by
   rw[e4];split
   ·exact Go.Sort.reverseRange_holds d1 a b hab b1
   ·exact Go.Sort.permIn_refl d1 a b
  have b2:b≤d2.size:=by rw[s2.1];exact b1
  have z2:d2.size<1000000000:=by rw[s2.1];exact z1
  have B2:Go.Sort.Below lt a b d2:=(hB.perm hb s1).perm b1 s2;have s3:Go.Sort.PermIn a b d2 pi.1:=by
   rw[e7];split
   ·exact(Go.Sort.partialInsertionSort_holds hS d2 a b (by omega) b2 B2).1
   ·exact Go.Sort.permIn_refl d2 a b
  have b3:b≤pi.1.size:=by rw[s3.1];exact b2
  have z3:pi.1.size<1000000000:=by rw[s3.1];exact z2
  have B3:Go.Sort.Below lt a b pi.1:=B2.perm b2 s3;have hc0:=Go.Sort.choosePivot_holds lt d1 a b (by omega);rw[← e3] at hc0;have hpv:a≤pv∧pv<b:=by rw[e5];split<;>omega
  have hlim2:lim<1000000000:=by rw[e2];split<;>omega
  have T1:((if(!wb)=true then((breakPatterns.f d.toList a b)>>=fun t1858=>some (t1858,IntKind.i64.wrap ((limit:Int)-(1:Int)))) else(some (d.toList,(limit:Int)))):Option ((List α)×Int))=some (d1.toList,(lim:Int)):=by
   cases wb with
   | true=>rw[if_neg (show ¬ (!true)=true by simp),e1,e2];rfl
   | false=>rw[if_pos (show(!false)=true from rfl),pq_bp d a b hab hb hd,sb,e1,e2,wN (x:=(limit:Int)-1) (k:=limit-1) (by omega) (by omega)];rfl
  have T2:((if(hnt c.2==(2:Int))=true then((reverseRange.f d1.toList a b)>>=fun t1869=>some (t1869,IntKind.i64.wrap ((IntKind.i64.wrap ((b:Int)-(1:Int)))-(IntKind.i64.wrap ((c.1:Int)-a))),(1:Int))) else(some (d1.toList,(c.1:Int),hnt c.2))):Option ((List α)×Int×Int))=some (d2.toList,(pv:Int),hnt hint):=by
   by_cases h:c.2 = .decreasing
   ·rw[if_pos (by rw[h];rfl),pq_rev d1 a b (by omega) b1 z1,sb,e4,e5,e6,if_pos h,if_pos h,if_pos h,wN (x:=(b:Int)-1) (k:=b-1) (by omega) (by omega),wN (x:=(c.1:Int)-a) (k:=c.1-a) (by omega) (by omega),wN (x:=((b-1:Nat):Int)-((c.1-a:Nat):Int)) (k:=(b-1)-(c.1-a)) (by omega) (by omega)]
    rfl
   ·rw[if_neg (by cases hh:c.2<;>simp_all [hnt]),e4,e5,e6,if_neg h,if_neg h,if_neg h]
  have T3:((if wb=true then(if wp=true then(some (hnt hint==(1:Int))) else(some false)) else(some false)):Option (Bool))=some (wb&&wp&&decide (hint = .increasing)):=by
   cases wb<;>cases wp<;>cases hint<;>rfl
  have T4:((if(wb&&wp&&decide (hint = .increasing))=true then((oPartialInsertionSort.f cmp d2.toList a b)>>=fun t1882=>if t1882.1=true then(some (.inl t1882.2)) else(some (.inr t1882.2))) else(some (.inr d2.toList))):Option ((List α) ⊕ (List α)))=some (if pi.2=true then .inl pi.1.toList else .inr pi.1.toList):=by
   by_cases h:(wb&&wp&&decide (hint = .increasing))=true
   ·rw[if_pos h,o_pq_pi hc d2 a b (by omega) b2 z2,sb]
    rw[if_pos h] at e7;rw[e7];cases (Go.Sort.partialInsertionSort lt d2 a b).2<;>rfl
   ·rw[if_neg h]
    rw[if_neg h] at e7;rw[e7];rfl
  rw[oPdqsort.l0,wN (x:=(b:Int)-a) (k:=b-a) (by omega) (by omega),if_neg (by simp;omega),if_neg (by simp;omega),T1,sb]
  try dsimp only
  rw[o_pq_piv hc d1 a b (by omega) b1 z1,sb,← e3]
  try dsimp only
  rw[T2,sb]
  try dsimp only
  rw[T3,sb,T4,sb];rw[pdq_eq d a b limit wb wp h12 hl d1 e1 lim e2 c e3 d2 e4 pv e5 hint e6 pi e7];clear T1 T2 T3 T4 e1 e2 e3 e4 e5 e6 e7;cases hp2:pi.2 with
  | true=>rw[if_pos rfl,if_pos rfl];rfl
  | false =>
   rw[if_neg (by simp),if_neg (by simp)]
   try dsimp only
   have T5:((if(decide ((a:Int)>(0:Int)))=true then((at? pi.1.toList (IntKind.i64.wrap ((a:Int)-(1:Int))))>>=fun b1896=>(at? pi.1.toList (pv:Int))>>=fun b1899=>(cmp b1896 b1899)>>=fun t1902=>some (!t1902)) else(some false)):Option (Bool))=some (decide (a>0) && !lt pi.1[a-1]! pi.1[pv]!):=by
    by_cases h:a>0
    ·obtain⟨x,e,hlt⟩:=hc pi.1[a-1]! pi.1[pv]!
     rw[if_pos (by simp;omega),wN (x:=(a:Int)-1) (k:=a-1) (by omega) (by omega),atA (by omega),sb,atA (by omega),sb,e,sb,hlt];simp[h]
    ·rw[if_neg (by simp;omega)];simp[h]
   rw[T5,sb];by_cases hcond:(decide (a>0) && !lt pi.1[a-1]! pi.1[pv]!)=true
   ·rw[if_pos hcond,if_pos hcond,o_pq_pe hc pi.1 a b pv hpv.1 hpv.2 b3 z3,sb,sb]
    simp only[Bool.and_eq_true,decide_eq_true_eq,Bool.not_eq_true'] at hcond;obtain⟨m1,m2,s4,B4,_⟩:=Go.Sort.round_eq (mid:=(Go.Sort.partitionEqual lt pi.1 a b pv).1) (d4:=(Go.Sort.partitionEqual lt pi.1 a b pv).2) hS (Go.Sort.partitionEqual_holds lt) hcond.1 hpv.1 hpv.2 b3 B3 hcond.2 rfl;generalize Go.Sort.partitionEqual lt pi.1 a b pv=r at *;obtain⟨mid,d4⟩:=r;simp only at m1 m2 s4 B4 ⊢;rw[if_pos (show a<mid∧mid≤b from⟨m1,m2⟩)];exact ih K d4 mid b lim wb wp (by omega) m2 (by rw[s4];exact b3) (by rw[s4];exact z3) hlim2 B4 (Nat.le_trans (Go.Sort.bitsLen_mono (by omega)) hK)
   ·rw[if_neg hcond,if_neg hcond,o_pq_pt hc pi.1 a b pv hpv.1 hpv.2 b3 z3,sb]
    obtain⟨m1,m2,s4,Ba,Br,hL,hR⟩:=Go.Sort.round_part (mid:=(Go.Sort.partition lt pi.1 a b pv).1) (ap:=(Go.Sort.partition lt pi.1 a b pv).2.1) (d4:=(Go.Sort.partition lt pi.1 a b pv).2.2) hS (Go.Sort.partition_holds lt) hpv.1 hpv.2 b3 B3 rfl;generalize Go.Sort.partition lt pi.1 a b pv=r at *;obtain⟨mid,ap,d4⟩:=r;simp only at m1 m2 s4 Ba Br hL hR ⊢;rw[if_pos (show a≤mid∧mid<b from⟨m1,m2⟩)];have q8:IntKind.i64.wrap (Int.tdiv ((b-a:Nat):Int) 8)=(((b-a) / 8:Nat):Int):=by
     rw[Int.tdiv_eq_ediv_of_nonneg (by omega)];exact wN (by omega) (by omega)
    rw[wN (x:=(mid:Int)-a) (k:=mid-a) (by omega) (by omega),wN (x:=(b:Int)-mid) (k:=b-mid) (by omega) (by omega),wN (x:=(mid:Int)+1) (k:=mid+1) (by omega) (by omega),q8];have b4:b≤d4.size:=by rw[s4];exact b3
    have z4:d4.size<1000000000:=by rw[s4];exact z3
    by_cases hlt:mid-a<b-mid
    ·have hk:=Go.Sort.bitsLen_half (x:=mid-a) (y:=b-a) (by omega) (by omega)
     obtain⟨K',rfl⟩:∃ K',K=K'+1:=⟨K-1,by omega⟩
     have L:=ih K' d4 a mid lim true true (by omega) m1 (by omega) z4 hlim2 Ba (by omega);have P:=Go.Sort.pdq_sorts lt hS d4 a mid lim true true m1 (by omega) Ba;obtain⟨BL,_⟩:=hL _ P.1 P.2;rw[if_pos (by simp;omega),if_pos hlt];have call:oPdqsort.fu cmp (K'+1) d4.toList a mid lim=some (Go.Sort.pdq lt d4 a mid lim true true).toList:=by
      show(oPdqsort.l0 cmp (oPdqsort.fu cmp K') d4.toList a mid lim true true>>=fun rr=>some rr)=_;rw[L,sb]
     rw[call,sb,sb]
     try dsimp only
     rw[sb];have hdec:decide (((mid-a:Nat):Int)≥(((b-a) / 8:Nat):Int))=decide (mid-a≥(b-a) / 8):=by rw[decide_eq_decide];omega
     rw[hdec];exact ih (K'+1) _ (mid+1) b lim _ ap (by omega) (by omega) (by rw[P.1.1];exact b4) (by rw[P.1.1];exact z4) hlim2 BL (Nat.le_trans (Go.Sort.bitsLen_mono (by omega)) hK)
    ·have hk:=Go.Sort.bitsLen_half (x:=b-(mid+1)) (y:=b-a) (by omega) (by omega)
     obtain⟨K',rfl⟩:∃ K',K=K'+1:=⟨K-1,by omega⟩
     have L:=ih K' d4 (mid+1) b lim true true (by omega) (by omega) b4 z4 hlim2 Br (by omega);have P:=Go.Sort.pdq_sorts lt hS d4 (mid+1) b lim true true (by omega) b4 Br;obtain⟨BL,_⟩:=hR _ P.1 P.2;rw[if_neg (by simp;omega),if_neg hlt];have call:oPdqsort.fu cmp (K'+1) d4.toList ((mid+1:Nat):Int) b lim=some (Go.Sort.pdq lt d4 (mid+1) b lim true true).toList:=by
      show(oPdqsort.l0 cmp (oPdqsort.fu cmp K') d4.toList ((mid+1:Nat):Int) b lim true true>>=fun rr=>some rr)=_;rw[L,sb]
     rw[call,sb,sb]
     try dsimp only
     rw[sb];have hdec:decide (((b-mid:Nat):Int)≥(((b-a) / 8:Nat):Int))=decide (b-mid≥(b-a) / 8):=by rw[decide_eq_decide];omega
     rw[hdec];exact ih (K'+1) _ a mid lim _ ap (by omega) m1 (by rw[P.1.1];omega) (by rw[P.1.1];exact z4) hlim2 BL (Nat.le_trans (Go.Sort.bitsLen_mono (by omega)) hK)
theorem o_pq_sort (hc:CmpB cmp lt) (h:SWO lt) (d:Array α) (hd:d.size<1000000000):oSortF.f cmp d.toList=some (Go.Sort.sort lt d).toList:=by
 unfold oSortF.f;have e:((d.toList.length:Nat):Int)=(d.size:Int):=by simp
 have hb:Go.Sort.bitsLen d.size≤30:=(Go.Sort.bitsLen_le_iff _ 30).2 (by omega);rw[e,wrapU (n:=(d.size:Int)) (by omega) (by omega),pq_len (by omega),sb];have m:=o_pq_main hc (swo_kit h) d.size 99 d 0 d.size (Go.Sort.bitsLen d.size) true true (by omega) (by omega) (Nat.le_refl _) hd (by omega) (.inl rfl) (by rw[Nat.sub_zero];omega);have c:oPdqsort.f cmp d.toList 0 d.size (Go.Sort.bitsLen d.size)=some (Go.Sort.sort lt d).toList:=by
  show(oPdqsort.l0 cmp (oPdqsort.fu cmp 99) d.toList ((0:Nat):Int) d.size (Go.Sort.bitsLen d.size) true true>>=fun rr=>some rr)=_;rw[m,sb];rfl
 rw[c,sb]
theorem o_sortF (hc:CmpB cmp lt) (h:SWO lt) (l:List α) (hl:l.length<1000000000):∃ r,oSortF.f cmp l=some r∧r.Perm l∧r.Pairwise (fun a b=>lt b a=false):=by
 have e:=o_pq_sort hc h l.toArray (by simpa using hl);obtain⟨p,s⟩:=Go.Sort.sort_sorts lt (swo_kit h) l.toArray;refine⟨_,e,?_,?_⟩
 ·have:=p.2.2
  rw[show(Go.Sort.sort lt l.toArray).extract 0 l.toArray.size=Go.Sort.sort lt l.toArray from by rw[← p.1];simp] at this;simpa using this
 ·rw[List.pairwise_iff_getElem]
  intro i j hi hj hij;have hj':j<l.toArray.size:=by rw[← p.1];simpa using hj
  have:=s i j (by omega) hij hj';have hi':i<(Go.Sort.sort lt l.toArray).size:=by simpa using hi
  have hj2:j<(Go.Sort.sort lt l.toArray).size:=by simpa using hj
  rw[getElem!_pos _ i hi',getElem!_pos _ j hj2] at this;simpa using this
end Go.Pv.GS
