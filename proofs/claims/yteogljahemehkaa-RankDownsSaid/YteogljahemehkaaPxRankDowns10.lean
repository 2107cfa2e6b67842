import Derived.Test.YteogljahemehkaaPxRankDowns09
set_option linter.unusedVariables false
set_option linter.unusedSimpArgs false
namespace Go.Proofs.Yteogljahemehkaa.PvGC
open Go Go.Pv Go.Pv.GS
open Classical
theorem at_bad (h : THist) (n : Int) (hn : U64 n) (hf : U64 h.f4) (hb : ¬ (1 ≤ n ∧ n ≤ h.f4)) : f_rank_At.f h n = some (k0, if h.f4 = 0 then 30 else 4) := by
  unfold f_rank_At.f
  by_cases h0 : h.f4 = 0
  · rw [if_pos (by simpa using h0), if_pos h0]; rfl
  rw [if_neg (by simpa using h0), if_neg h0]
  by_cases h1 : n < 1
  · rw [if_pos (by simpa using h1), sb]; rfl
  rw [if_neg (by simpa using h1), sb, if_pos (by simp; omega)]; rfl
def gsum (g : Tbound_Key → Int) (l : List Trank_Cell) : Int := (l.map (fun c => c.f1 * g c.f0)).sum
theorem gsum_cons (g : Tbound_Key → Int) (c : Trank_Cell) (l : List Trank_Cell) : gsum g (c :: l) = c.f1 * g c.f0 + gsum g l := by simp [gsum]
theorem gsum_append (g : Tbound_Key → Int) (a b : List Trank_Cell) : gsum g (a ++ b) = gsum g a + gsum g b := by simp [gsum]
theorem gsum_cells {h : THist} (f : Fits h) (g : Tbound_Key → Int) : gsum g (cells h) = wsum h.f7 (fun i => g ⟨-1, h.f1, i⟩) + h.f3 * g ⟨0, 0, 0⟩ + wsum h.f6 (fun i => g ⟨1, h.f1, i⟩) := by
  rw [cells, gsum_append, gsum_append]
  have e1 : gsum g (h.f7.reverse.map (cellN h.f1)) = wsum h.f7 (fun i => g ⟨-1, h.f1, i⟩) := by
    simp only [gsum, wsum, List.map_map, Function.comp_def]
    rw [List.map_reverse]; exact isum_perm (List.reverse_perm _)
  have e2 : gsum g (h.f6.map (cellP h.f1)) = wsum h.f6 (fun i => g ⟨1, h.f1, i⟩) := by
    simp only [gsum, wsum, List.map_map, Function.comp_def]
  have e3 : gsum g (cellZ h.f3) = h.f3 * g ⟨0, 0, 0⟩ := by
    unfold cellZ; split
    · simp [gsum]
    · have : h.f3 = 0 := by have := f.zero.1; omega
      rw [this]; simp [gsum]
  rw [e1, e2, e3]
theorem gsum_le {g : Tbound_Key → Int} (hg : ∀ k, g k = 0 ∨ g k = 1) : ∀ (l : List Trank_Cell), (∀ c ∈ l, 0 < c.f1) → 0 ≤ gsum g l
  | [], _ => by simp [gsum]
  | c :: l, hp => by
    have := gsum_le hg l (fun d hd => hp d (by simp [hd]))
    have h1 := hp c (by simp)
    rw [gsum_cons]
    rcases hg c.f0 with h | h <;> rw [h] <;> omega
noncomputable def upto (k : Tbound_Key → Int) (y : Int) (q : Tbound_Key) : Int := if k q ≤ y then 1 else 0
theorem upto_01 (k : Tbound_Key → Int) (y : Int) (q : Tbound_Key) : upto k y q = 0 ∨ upto k y q = 1 := by unfold upto; split <;> simp
theorem gsum_above (k : Tbound_Key → Int) (y : Int) : ∀ (l : List Trank_Cell), (∀ c ∈ l, y < k c.f0) → gsum (upto k y) l = 0
  | [], _ => by simp [gsum]
  | c :: l, h => by
    have h1 := h c (by simp)
    rw [gsum_cons, gsum_above k y l (fun d hd => h d (by simp [hd])), upto, if_neg (by omega)]; simp
theorem pick_mem : ∀ (l : List Trank_Cell) (n : Int) (c : Trank_Cell), pick l n = some c → c ∈ l
  | [], n, c, h => by simp [pick] at h
  | d :: l, n, c, h => by
    unfold pick at h
    split at h
    · obtain rfl := Option.some.inj h; simp
    · exact List.mem_cons_of_mem _ (pick_mem l _ c h)
theorem pick_key (k : Tbound_Key → Int) : ∀ (l : List Trank_Cell) (n : Int) (c : Trank_Cell), (∀ c ∈ l, 0 < c.f1) → l.Pairwise (fun a b => k a.f0 ≤ k b.f0) → 0 < n → pick l n = some c →
    n ≤ gsum (upto k (k c.f0)) l ∧ ∀ y, y < k c.f0 → gsum (upto k y) l < n
  | [], n, c, _, _, _, h => by simp [pick] at h
  | d :: l, n, c, hp, hs, h0, h => by
    have hd := hp d (by simp)
    obtain ⟨hs1, hs2⟩ := List.pairwise_cons.1 hs
    unfold pick at h
    split at h
    · rename_i hle
      obtain rfl := Option.some.inj h
      constructor
      · have := gsum_le (upto_01 k (k d.f0)) l (fun e he => hp e (by simp [he]))
        rw [gsum_cons]
        have e : upto k (k d.f0) d.f0 = 1 := by unfold upto; rw [if_pos (Int.le_refl _)]
        rw [e]; omega
      · intro y hy
        rw [gsum_above k y (d :: l) (fun e he => by
          rcases List.mem_cons.1 he with rfl | he
          · exact hy
          · exact Int.lt_of_lt_of_le hy (hs1 e he))]
        exact h0
    · rename_i hle
      have hmem : c ∈ l := pick_mem l _ c h
      obtain ⟨r1, r2⟩ := pick_key k l (n - d.f1) c (fun e he => hp e (by simp [he])) hs2 (by omega) h
      constructor
      · rw [gsum_cons]
        have e : upto k (k c.f0) d.f0 = 1 := by unfold upto; rw [if_pos (hs1 c hmem)]
        rw [e]; omega
      · intro y hy
        have := r2 y hy
        rw [gsum_cons]
        rcases upto_01 k y d.f0 with e | e <;> rw [e] <;> omega
def kk (f s : Int) (q : Tbound_Key) : Int := if q.f0 = 0 then 0 else if q.f0 > 0 then 1048576 + upI f s q.f2 else -1048576 - upI f s q.f2
theorem upI_mono {f s i j : Int} (h : i ≤ j) : upI f s i ≤ upI f s j := by
  have h1 := upI_spec f s i
  have h2 := upI_spec f s j
  have := Int.lt_of_mul_lt_mul_right (a := rat f s) (show (upI f s i - 1) * rat f s < upI f s j * rat f s by omega) (Int.le_of_lt (rat_pos f s))
  omega
theorem kk_sorted {h : THist} (v : Valid h) {s : Int} (hs : RightS s) (hle : s ≤ h.f1) : (cells h).Pairwise (fun a b => kk h.f1 s a.f0 ≤ kk h.f1 s b.f0) := by
  have bd : ∀ l : List TBucket, (∀ b ∈ l, BOk h.f1 h.f2 b) → ∀ b ∈ l, -262144 < upI h.f1 s b.f0 ∧ upI h.f1 s b.f0 ≤ 262144 := fun l hl b hb => inS_small (upI_in v.schema hs hle (hl b hb).ins)
  have bp := bd _ v.pos.ok
  have bn := bd _ v.neg.ok
  rw [cells, List.pairwise_append, List.pairwise_append]
  refine ⟨⟨?_, ?_, ?_⟩, ?_, ?_⟩
  · rw [List.pairwise_map, List.pairwise_reverse]
    refine v.neg.up.imp (fun {a b} hab => ?_)
    have := upI_mono (f := h.f1) (s := s) (Int.le_of_lt hab)
    simp [kk]; omega
  · unfold cellZ; split <;> simp
  · intro x hx y hy
    simp only [List.mem_map, List.mem_reverse] at hx
    obtain ⟨b, hb, rfl⟩ := hx
    have := bn b hb
    unfold cellZ at hy; split at hy
    · simp at hy; subst hy; simp [kk]; omega
    · simp at hy
  · rw [List.pairwise_map]
    refine v.pos.up.imp (fun {a b} hab => ?_)
    have := upI_mono (f := h.f1) (s := s) (Int.le_of_lt hab)
    simp [kk]; omega
  · intro x hx y hy
    simp only [List.mem_map] at hy
    obtain ⟨c, hc, rfl⟩ := hy
    have hc := bp c hc
    simp only [List.mem_append, List.mem_map, List.mem_reverse] at hx
    rcases hx with ⟨b, hb, rfl⟩ | hx
    · have := bn b hb
      simp [kk]; omega
    · unfold cellZ at hx; split at hx
      · simp at hx; subst hx; simp [kk]; omega
      · simp at hx
theorem wsum_downL (f t : Int) (l : List TBucket) (w : Int → Int) : wsum (downL f t l) w = wsum l (fun i => w (upI f t i)) := by
  simp [wsum, downL, Function.comp_def]
theorem wsum_fun {l : List TBucket} {w w' : Int → Int} (h : ∀ b ∈ l, w b.f0 = w' b.f0) : wsum l w = wsum l w' := by
  unfold wsum; congr 1
  exact List.map_congr_left (fun b hb => by rw [h b hb])
structure Dn (h : THist) (s : Int) (d : THist) : Prop where
  valid : Valid d
  fits : Fits d
  schema : d.f1 = s
  zeroAt : d.f2 = -524288
  count : d.f4 = h.f4
  zero : d.f3 = h.f3
  tpos : ∀ i, tot d.f6 i = tot (downL h.f1 s h.f6) i
  tneg : ∀ i, tot d.f7 i = tot (downL h.f1 s h.f7) i
theorem dn_of {h : THist} (v : Valid h) (f : Fits h) (h2 : h.f2 = -524288) {s : Int} (hs : RightS s) (hle : s ≤ h.f1) : ∃ d, f_meld_Down.f h s = some (d, 0) ∧ Dn h s d := by
  obtain ⟨d, e, c⟩ := Down_eq h s v f hs hle
  have ns : ∀ l, ¬ Strad s (-524288) l ∨ True := fun _ => .inr trivial
  have noS : ∀ l, Cs s l → ¬ Strad s (-524288) l := by
    rintro l hl ⟨b, hb, h1, h2⟩
    have := ins_bounds hs (hl.ins b hb)
    omega
  have hz : zAt s h.f2 (downL h.f1 s h.f6) (downL h.f1 s h.f7) = -524288 := by
    rw [h2]
    exact zAt_no (noS _ (cs_down v.schema hs hle (side_cs v.pos))) (noS _ (cs_down v.schema hs hle (side_cs v.neg)))
  rw [hz] at c
  have tall : ∀ l l', Cs s l → (∀ b ∈ l', InS s b.f0) → (∀ i, tot l' i = if above s (-524288) i = true then tot l i else 0) → ∀ i, tot l' i = tot l i := by
    intro l l' hl hl' ht i
    rw [ht i]
    split
    · rfl
    · rename_i hab
      symm
      refine tot_zero (fun b hb hbi => hab ?_)
      have := ins_bounds hs (hl.ins b hb)
      rw [← hbi]; unfold above; simp; omega
  have tp := tall _ _ (cs_down v.schema hs hle (side_cs v.pos)) (by intro b hb; have := (c.valid.pos.ok b hb).ins; rw [c.schema] at this; exact this) c.tpos
  have tn := tall _ _ (cs_down v.schema hs hle (side_cs v.neg)) (by intro b hb; have := (c.valid.neg.ok b hb).ins; rw [c.schema] at this; exact this) c.tneg
  refine ⟨d, e, ⟨c.valid, c.fits, c.schema, c.zeroAt, c.count, ?_, tp, tn⟩⟩
  have e1 := cnt_congr tp
  have e2 := cnt_congr tn
  rw [cnt_downL] at e1 e2
  have := c.valid.count
  have := v.count
  have := c.count
  omega
theorem gsum_down {h d : THist} (f : Fits h) {s : Int} (hd : Dn h s d) (g g' : Tbound_Key → Int) (h0 : g ⟨0, 0, 0⟩ = g' ⟨0, 0, 0⟩)
    (hn : ∀ b ∈ h.f7, g ⟨-1, h.f1, b.f0⟩ = g' ⟨-1, s, upI h.f1 s b.f0⟩) (hp : ∀ b ∈ h.f6, g ⟨1, h.f1, b.f0⟩ = g' ⟨1, s, upI h.f1 s b.f0⟩) : gsum g (cells h) = gsum g' (cells d) := by
  rw [gsum_cells f, gsum_cells hd.fits, hd.schema, hd.zero, h0, wsum_congr hd.tneg, wsum_congr hd.tpos, wsum_downL, wsum_downL, wsum_fun (w' := fun i => g' ⟨-1, s, upI h.f1 s i⟩) hn, wsum_fun (w := fun i => g ⟨1, h.f1, i⟩) (w' := fun i => g' ⟨1, s, upI h.f1 s i⟩) hp]
theorem at_down {h d : THist} (v : Valid h) (f : Fits h) {s : Int} (hs : RightS s) (hle : s ≤ h.f1) (hd : Dn h s d) {n : Int} (hn : 0 < n) {c c' : Trank_Cell} (hc : pick (cells h) n = some c) (hc' : pick (cells d) n = some c') :
    kk h.f1 s c.f0 = kk s s c'.f0 := by
  obtain ⟨a1, a2⟩ := pick_key (kk h.f1 s) (cells h) n c (cells_pos v) (kk_sorted v hs hle) hn hc
  have so := kk_sorted hd.valid (s := s) hs (by rw [hd.schema]; omega)
  rw [hd.schema] at so
  obtain ⟨b1, b2⟩ := pick_key (kk s s) (cells d) n c' (cells_pos hd.valid) so hn hc'
  have E : ∀ y, gsum (upto (kk h.f1 s) y) (cells h) = gsum (upto (kk s s) y) (cells d) := by
    intro y
    refine gsum_down f hd _ _ ?_ ?_ ?_
    · simp [upto, kk]
    · intro b hb; simp [upto, kk, upI_self]
    · intro b hb; simp [upto, kk, upI_self]
  rcases Int.lt_trichotomy (kk h.f1 s c.f0) (kk s s c'.f0) with h1 | h1 | h1
  · have := b2 _ h1; rw [← E] at this; omega
  · exact h1
  · have := a2 _ h1; rw [E] at this; omega
theorem up_le {f s i J : Int} : i ≤ J * rat f s ↔ upI f s i ≤ J := by
  have h1 := upI_spec f s i
  have hp := rat_pos f s
  constructor
  · intro h
    have := Int.lt_of_mul_lt_mul_right (a := rat f s) (show (upI f s i - 1) * rat f s < J * rat f s by omega) (Int.le_of_lt hp)
    omega
  · intro h
    have := Int.mul_le_mul_of_nonneg_right h (Int.le_of_lt hp)
    omega
theorem le_units {f s i J : Int} (h1 : s ≤ f) (h2 : f ≤ 8) : (i * stp f ≤ J * stp s ↔ upI f s i ≤ J) ∧ (J * stp s ≤ (i - 1) * stp f ↔ J < upI f s i) := by
  have e : J * stp s = J * rat f s * stp f := by rw [stp_rat h1 h2, Int.mul_assoc, Int.mul_comm (rat f s)]
  have hp := stp_pos f
  rw [e]
  have := up_le (f := f) (s := s) (i := i) (J := J)
  constructor
  · constructor
    · intro h; exact this.1 (Int.le_of_mul_le_mul_right h hp)
    · intro h; exact Int.mul_le_mul_of_nonneg_right (this.2 h) (Int.le_of_lt hp)
  · constructor
    · intro h
      have := Int.le_of_mul_le_mul_right h hp
      omega
    · intro h; exact Int.mul_le_mul_of_nonneg_right (by omega) (Int.le_of_lt hp)
def Tk (f s side J : Int) (k : Tbound_Key) : Prop := if side = 1 then k.f0 ≤ 0 ∨ upI f s k.f2 ≤ J else k.f0 < 0 ∧ J < upI f s k.f2
theorem cmp_cell {h : THist} (v : Valid h) (h2 : h.f2 = -524288) {s : Int} (hs : RightS s) (hle : s ≤ h.f1) {side J : Int} (hsd : side = 1 ∨ side = -1) (hJ : -262144 < J * stp s ∧ J * stp s ≤ 262144) {c : Trank_Cell} (hc : CellOk h c) :
    (hi h c ≤ spt ⟨side, J * stp s⟩ ∨ spt ⟨side, J * stp s⟩ ≤ lo h c) ∧ (hi h c ≤ spt ⟨side, J * stp s⟩ ↔ Tk h.f1 s side J c.f0) := by
  have h8 : h.f1 ≤ 8 := v.schema.2
  cases hc with
  | neg b hb ok =>
    have := ins_bounds v.schema ok.ins
    have L := le_units (f := h.f1) (s := s) (i := b.f0) (J := J) hle h8
    rcases hsd with rfl | rfl
    · simp [cellN, hi, lo, spt, Tk]; omega
    · simp only [cellN, hi, lo, spt, Tk]
      rw [if_neg (by decide), if_pos (by decide), if_neg (by decide), if_pos (by decide), if_neg (by decide), if_pos (by decide), if_neg (by decide), ← L.2]
      constructor
      · by_cases q : J * stp s ≤ (b.f0 - 1) * stp h.f1
        · left; omega
        · right
          have := L.1.2 (by have := fun h => q (L.2.2 h); omega)
          omega
      · constructor
        · intro h; exact ⟨by decide, by omega⟩
        · intro h; have := h.2; omega
  | zero hz =>
    simp only [hi, lo, spt, Tk]
    rcases hsd with rfl | rfl
    · simp [h2]; omega
    · simp [h2]; omega
  | pos b hb ok =>
    have := ins_bounds v.schema ok.ins
    have L := le_units (f := h.f1) (s := s) (i := b.f0) (J := J) hle h8
    rcases hsd with rfl | rfl
    · simp only [cellP, hi, lo, spt, Tk]
      rw [if_pos (by decide), if_pos (by decide), if_pos (by decide), if_pos trivial, ← L.1]
      constructor
      · by_cases q : b.f0 * stp h.f1 ≤ J * stp s
        · left; omega
        · right
          have := L.2.2 (by have := fun h => q (L.1.2 h); omega)
          omega
      · constructor
        · intro h; right; omega
        · intro h; rcases h with h | h
          · exact absurd h (by decide)
          · omega
    · simp [cellP, hi, lo, spt, Tk]; omega
theorem bsum_gsum (h : THist) (a : Int) (g : Tbound_Key → Int) : ∀ l : List Trank_Cell, (∀ c ∈ l, (hi h c ≤ a → g c.f0 = 1) ∧ (¬ hi h c ≤ a → g c.f0 = 0)) → bsum h a l = gsum g l
  | [], _ => by simp [bsum, gsum]
  | c :: l, hc => by
    have h1 := hc c (by simp)
    rw [bsum, gsum_cons, bsum_gsum h a g l (fun d hd => hc d (by simp [hd]))]
    split
    · rename_i q; rw [h1.1 q]; simp
    · rename_i q; rw [h1.2 q]; simp
theorem msum_zero (h : THist) (a : Int) : ∀ l : List Trank_Cell, (∀ c ∈ l, hi h c ≤ a ∨ a ≤ lo h c) → msum h a l = 0
  | [], _ => by simp [msum]
  | c :: l, hc => by
    have h1 := hc c (by simp)
    rw [msum, msum_zero h a l (fun d hd => hc d (by simp [hd]))]
    split
    · simp
    · rw [if_neg (by omega)]; simp
theorem below_down {h d : THist} (v : Valid h) (f : Fits h) (h2 : h.f2 = -524288) {s : Int} (hs : RightS s) (hle : s ≤ h.f1) (hd : Dn h s d) {side J : Int} (hsd : side = 1 ∨ side = -1) : f_rank_Below.f h ⟨side, J * stp s⟩ = f_rank_Below.f d ⟨side, J * stp s⟩ := by
  rw [below_eq v f, below_eq hd.valid hd.fits, hd.count]
  by_cases hp : PlaceOk ⟨side, J * stp s⟩
  case neg => rw [if_pos hp, if_pos hp]
  rw [if_neg (not_not_intro hp), if_neg (not_not_intro hp)]
  have hJ : -262144 < J * stp s ∧ J * stp s ≤ 262144 := by
    unfold PlaceOk at hp; simp only at hp; omega
  have A := fun c hc => cmp_cell v h2 hs hle hsd hJ (cells_ok v c hc)
  have B := fun c hc => cmp_cell hd.valid hd.zeroAt hs (by rw [hd.schema]; omega) hsd hJ (cells_ok hd.valid c hc)
  rw [msum_zero h _ _ (fun c hc => (A c hc).1), msum_zero d _ _ (fun c hc => (B c hc).1)]
  rw [bsum_gsum h _ (fun k => if Tk h.f1 s side J k then 1 else 0) _ (fun c hc => ⟨fun q => if_pos ((A c hc).2.1 q), fun q => if_neg (fun t => q ((A c hc).2.2 t))⟩)]
  rw [bsum_gsum d _ (fun k => if Tk d.f1 s side J k then 1 else 0) _ (fun c hc => ⟨fun q => if_pos ((B c hc).2.1 q), fun q => if_neg (fun t => q ((B c hc).2.2 t))⟩)]
  rw [gsum_down f hd (fun k => if Tk h.f1 s side J k then 1 else 0) (fun k => if Tk d.f1 s side J k then 1 else 0)]
  · rcases hsd with rfl | rfl <;> simp [Tk]
  · intro b hb; rcases hsd with rfl | rfl <;> simp [Tk, hd.schema, upI_self]
  · intro b hb; rcases hsd with rfl | rfl <;> simp [Tk, hd.schema, upI_self]
theorem kk_cell {h : THist} (v : Valid h) {s : Int} (hs : RightS s) (hle : s ≤ h.f1) {c : Trank_Cell} (hc : CellOk h c) :
    (c.f0.f0 = -1 ∧ c.f0.f1 = h.f1 ∧ InS h.f1 c.f0.f2 ∧ kk h.f1 s c.f0 = -1048576 - upI h.f1 s c.f0.f2 ∧ -262144 < upI h.f1 s c.f0.f2 ∧ upI h.f1 s c.f0.f2 ≤ 262144) ∨ (c.f0 = ⟨0, 0, 0⟩ ∧ kk h.f1 s c.f0 = 0) ∨
    (c.f0.f0 = 1 ∧ c.f0.f1 = h.f1 ∧ InS h.f1 c.f0.f2 ∧ kk h.f1 s c.f0 = 1048576 + upI h.f1 s c.f0.f2 ∧ -262144 < upI h.f1 s c.f0.f2 ∧ upI h.f1 s c.f0.f2 ≤ 262144) := by
  cases hc with
  | neg b hb ok =>
    have := inS_small (upI_in v.schema hs hle ok.ins)
    exact .inl ⟨rfl, rfl, ok.ins, by simp [kk], this.1, this.2⟩
  | zero hz => exact .inr (.inl ⟨rfl, by simp [kk]⟩)
  | pos b hb ok =>
    have := inS_small (upI_in v.schema hs hle ok.ins)
    exact .inr (.inr ⟨rfl, rfl, ok.ins, by simp [kk], this.1, this.2⟩)
theorem has_T {f s i : Int} (hf : RightS f) (hs : RightS s) (hle : s ≤ f) (hi : InS f i) (side : Int) : f_bound_Has.f ⟨side, s, upI f s i⟩ ⟨side, f, i⟩ = some true := by
  unfold f_bound_Has.f
  have hu := upI_in hf hs hle hi
  have e : stp s = stp f * rat f s := stp_rat hle hf.2
  have u := upI_spec f s i
  have sp := stp_pos f
  have e1 : ∀ k : Int, k * stp s = k * rat f s * stp f := fun k => by rw [e, Int.mul_assoc, Int.mul_comm (rat f s)]
  simp only
  rw [if_pos (by simp), in_T hs, sb, decide_eq_true hu, if_pos rfl, in_T hf, sb, decide_eq_true hi, if_pos rfl, low_T hs hu, sb, low_T hf hi, sb, units_in hs hu, sb, units_in hf hi, sb, e1, e1]
  have k1 := Int.mul_le_mul_of_nonneg_right (show (upI f s i - 1) * rat f s ≤ i - 1 by omega) (Int.le_of_lt sp)
  have k2 := Int.mul_le_mul_of_nonneg_right u.2 (Int.le_of_lt sp)
  rw [if_pos (by simpa using k1), decide_eq_true k2]; rfl
theorem rankDowns_R (h : THist) (s n : Int) (sd : Bool) (ix : Int) (hR : RHist h) (hs64 : I64 s) (hn : U64 n) (_ : True) (hix : Rng (-32768) 32768 ix) : f_pluviallaw08_RankDowns.f h s n sd ix = some true := by
  unfold f_pluviallaw08_RankDowns.f
  rw [right8 h hR, awake08, sb, sb]
  by_cases hr : Right8 h
  case neg => rw [decide_eq_false hr]; rfl
  rw [decide_eq_true hr, if_neg (by simp), sb]
  by_cases h2 : h.f2 = -524288
  case neg => rw [if_pos (by simpa using h2)]
  rw [if_neg (by simpa using h2)]
  have v := hr.valid
  have f := fits_of hR
  have fc := f.count
  by_cases hs : RightS s ∧ s ≤ h.f1
  case neg => rw [Down_bad h s hs, sb]; rfl
  obtain ⟨hs, hle⟩ := hs
  obtain ⟨d, ed, hd⟩ := dn_of v f h2 hs hle
  have hi1 := hix.1
  have hi2 := hix.2
  rw [ed, sb, if_neg (by simp)]
  try dsimp only
  rw [units_T hs (by rw [wrap64 (by omega) (by omega)]; omega), wrap64 (n := ix) (by omega) (by omega), sb]
  have tail : ∀ side : Int, side = 1 ∨ side = -1 → ((f_rank_Below.f h (⟨side, ix * stp s⟩ : Trank_Place)) >>= fun t2516 => (f_rank_Below.f d (⟨side, ix * stp s⟩ : Trank_Place)) >>= fun t2520 => (((some true) >>= fun t2526 => if t2526 = true then (if (t2516.2 == t2520.2) = true then (some ((((t2516.1).f0) == ((t2520.1).f0)) && ((((t2516.1).f1) == ((t2520.1).f1)) && ((((t2516.1).f2) == ((t2520.1).f2)) && true)))) else (some false)) else (some false)) : Option (Bool)) >>= fun x2530 => some x2530) = some true := by
    intro side hside
    rw [below_down v f h2 hs hle hd hside, below_eq hd.valid hd.fits, sb, sb, sb, if_pos rfl, if_pos (by simp), sb]
    simp
  have tail2 : ∀ x : Option Bool, x = some false → (x >>= fun x2506 => if x2506 = true then some false else (((if sd = true then (some (-1)) else (some 1)) : Option (Int)) >>= fun x2513 => (f_rank_Below.f h (⟨x2513, ix * stp s⟩ : Trank_Place)) >>= fun t2516 => (f_rank_Below.f d (⟨x2513, ix * stp s⟩ : Trank_Place)) >>= fun t2520 => (((some true) >>= fun t2526 => if t2526 = true then (if (t2516.2 == t2520.2) = true then (some ((((t2516.1).f0) == ((t2520.1).f0)) && ((((t2516.1).f1) == ((t2520.1).f1)) && ((((t2516.1).f2) == ((t2520.1).f2)) && true)))) else (some false)) else (some false)) : Option (Bool)) >>= fun x2530 => some x2530)) = some true := by
    intro x hx
    rw [hx, sb, if_neg (by simp)]
    cases sd
    · rw [if_neg (by simp), sb]; exact tail 1 (.inl rfl)
    · rw [if_pos rfl, sb]; exact tail (-1) (.inr rfl)
  by_cases hb : 1 ≤ n ∧ n ≤ h.f4
  case neg =>
    rw [at_bad h n hn fc hb, at_bad d n hn hd.fits.count (by rw [hd.count]; exact hb), hd.count, sb, sb]
    refine tail2 _ ?_
    rw [if_neg (by simp)]
    by_cases h0 : h.f4 = 0 <;> simp [h0]
  rcases at_cases h v f n hn with ⟨_, _, _, hh⟩ | ⟨_, _, c, pc, mc, ac⟩
  · exact absurd hb hh
  rcases at_cases d hd.valid hd.fits n hn with ⟨_, _, _, hh⟩ | ⟨_, _, c', pc', mc', ac'⟩
  · exact absurd (by rw [hd.count]; exact hb) hh
  rw [ac, ac', sb, sb]
  refine tail2 _ ?_
  have K := at_down v f hs hle hd (by omega) pc pc'
  have k1 := kk_cell v hs hle (cells_ok v c mc)
  have k2 := kk_cell hd.valid (s := s) hs (by rw [hd.schema]; omega) (cells_ok hd.valid c' mc')
  rw [hd.schema, upI_self] at k2
  rw [if_neg (by simp)]
  try dsimp only
  rw [if_pos (by simp)]
  obtain ⟨⟨cs, cf, ci⟩, cn⟩ := c
  obtain ⟨⟨ds, df, di⟩, dn⟩ := c'
  simp only [Tbound_Key.mk.injEq] at K k1 k2 ⊢
  rcases k1 with ⟨rfl, rfl, i1, q1, r1, r1'⟩ | ⟨⟨rfl, rfl, rfl⟩, q1⟩ | ⟨rfl, rfl, i1, q1, r1, r1'⟩
  · rcases k2 with ⟨rfl, rfl, i2, q2, r2, r2'⟩ | ⟨⟨rfl, rfl, rfl⟩, q2⟩ | ⟨rfl, rfl, i2, q2, r2, r2'⟩
    · obtain rfl : di = upI h.f1 df ci := by omega
      rw [if_neg (by simp), if_pos (by simp), has_T v.schema hs hle i1, sb]; rfl
    · omega
    · omega
  · rcases k2 with ⟨rfl, rfl, i2, q2, r2, r2'⟩ | ⟨⟨rfl, rfl, rfl⟩, q2⟩ | ⟨rfl, rfl, i2, q2, r2, r2'⟩
    · omega
    · rw [if_neg (by simp), if_neg (by simp)]
    · omega
  · rcases k2 with ⟨rfl, rfl, i2, q2, r2, r2'⟩ | ⟨⟨rfl, rfl, rfl⟩, q2⟩ | ⟨rfl, rfl, i2, q2, r2, r2'⟩
    · omega
    · omega
    · obtain rfl : di = upI h.f1 df ci := by omega
      rw [if_neg (by simp), if_pos (by simp), has_T v.schema hs hle i1, sb]; rfl
end Go.Proofs.Yteogljahemehkaa.PvGC
