import Derived.Test.YticdbkmekkbiiaaPlMeld1B3
set_option linter.unusedVariables false
set_option linter.unusedSimpArgs false
/-! What Down, Widen and Alike make. -/
namespace Go.Proofs.Yticdbkmekkbiiaa.PvGB3
open Go Go.Pv Go.Pv.GS
open Classical

/-- How many steps of one schema a coarser one's step has. -/
def rat (f t : Int) : Int := 2 ^ (f - t).toNat
theorem rat_pos (f t : Int) : 0 < rat f t := Int.pow_pos (by omega)
theorem stp_rat {f t : Int} (h1 : t ≤ f) (h2 : f ≤ 8) : stp t = stp f * rat f t := by
  unfold stp rat
  rw [← Int.pow_add]; congr 1; omega
theorem rat_rat {a b c : Int} (h1 : b ≤ a) (h2 : c ≤ b) : rat a c = rat a b * rat b c := by
  unfold rat
  rw [← Int.pow_add]; congr 1; omega
/-- The index of a coarser schema. -/
def upI (f t i : Int) : Int := -((-i) / rat f t)
theorem upI_spec (f t i : Int) : (upI f t i - 1) * rat f t < i ∧ i ≤ upI f t i * rat f t := by
  have hp := rat_pos f t
  unfold upI
  generalize rat f t = r at *
  have e1 := Int.ediv_mul_le (-i) (show r ≠ 0 by omega)
  have e2 := Int.lt_ediv_add_one_mul_self (-i) hp
  generalize (-i) / r = q at *
  rw [Int.add_mul] at e2
  constructor
  · rw [Int.sub_mul, Int.neg_mul]; omega
  · rw [Int.neg_mul]; omega
theorem upI_unique {f t i j : Int} (h1 : (j - 1) * rat f t < i) (h2 : i ≤ j * rat f t) : upI f t i = j := by
  obtain ⟨h3, h4⟩ := upI_spec f t i
  have hp := Int.le_of_lt (rat_pos f t)
  have a1 := Int.lt_of_mul_lt_mul_right (show (j - 1) * rat f t < upI f t i * rat f t by omega) hp
  have a2 := Int.lt_of_mul_lt_mul_right (show (upI f t i - 1) * rat f t < j * rat f t by omega) hp
  omega
theorem upI_self (s i : Int) : upI s s i = i := by
  apply upI_unique <;> simp [rat]; omega
theorem upI_upI {a b c i : Int} (h1 : b ≤ a) (h2 : c ≤ b) : upI b c (upI a b i) = upI a c i := by
  symm
  obtain ⟨h3, h4⟩ := upI_spec a b i
  obtain ⟨h5, h6⟩ := upI_spec b c (upI a b i)
  have hp := Int.le_of_lt (rat_pos a b)
  apply upI_unique
  · rw [rat_rat h1 h2, Int.mul_comm (rat a b), ← Int.mul_assoc]
    have : (upI b c (upI a b i) - 1) * rat b c ≤ upI a b i - 1 := by omega
    have := Int.mul_le_mul_of_nonneg_right this hp
    omega
  · rw [rat_rat h1 h2, Int.mul_comm (rat a b), ← Int.mul_assoc]
    have := Int.mul_le_mul_of_nonneg_right h6 hp
    omega
theorem upI_in {f t i : Int} (hf : RightS f) (ht : RightS t) (h : t ≤ f) (hi : InS f i) : InS t (upI f t i) := by
  obtain ⟨h3, h4⟩ := upI_spec f t i
  have hst := stp_rat h hf.2
  have hp := stp_pos f
  have hd := stp_dvd ht
  have hr := rat_pos f t
  obtain ⟨i1, i2⟩ := hi
  constructor
  · rw [hst, Int.mul_comm (stp f), ← Int.mul_assoc]
    have := Int.mul_le_mul_of_nonneg_right h4 (Int.le_of_lt hp); omega
  · -- the last index of the coarser schema
    generalize hQ : 262144 / stp t = Q at hd
    have hi3 : i * stp f ≤ Q * rat f t * stp f := by rw [Int.mul_assoc, Int.mul_comm (rat f t), ← hst, hd]; exact i2
    have hi4 := Int.le_of_mul_le_mul_right hi3 hp
    have := Int.lt_of_mul_lt_mul_right (show (upI f t i - 1) * rat f t < Q * rat f t by omega) (Int.le_of_lt hr)
    have := Int.mul_le_mul_of_nonneg_right (show upI f t i ≤ Q by omega) (Int.le_of_lt (stp_pos t))
    omega

theorem to_eq {f t i : Int} (hf : RightS f) (ht : RightS t) (h : t ≤ f) (hi : InS f i) : f_bound_To.f f t i = some (upI f t i, 0) := by
  have hs := inS_small hi
  have h1 := hf.1
  have h2 := hf.2
  have h3 := ht.1
  have h4 := ht.2
  unfold f_bound_To.f f_num_Up.f
  rw [right_T hf, sb, if_neg (by simp), right_T ht, sb, if_neg (by simp), sb, if_neg (by simp; omega), in_T hf, sb, if_neg (by simp [hi]), chkB (u64_wrap _).1, sb]
  rw [wrap64 (n := f - t) (by omega) (by omega), wrapU (by omega) (by omega), wrap64 (n := 0 - i) (by omega) (by omega)]
  have e : min (f - t).toNat 64 = (f - t).toNat := by omega
  rw [e, Int.fdiv_eq_ediv_of_nonneg _ (Int.le_of_lt (Int.pow_pos (by omega)))]
  have : (0 - i) / 2 ^ (f - t).toNat = -upI f t i := by unfold upI rat; rw [Int.zero_sub]; omega
  rw [this]
  have hj := inS_small (upI_in hf ht h hi)
  rw [wrap64 (by omega) (by omega)]
  congr 2; omega

def downL (f t : Int) (l : List TBucket) : List TBucket := l.map (fun b => ⟨upI f t b.f0, b.f1⟩)
theorem downL_len (f t : Int) (l : List TBucket) : (downL f t l).length = l.length := by simp [downL]
theorem cnt_downL (f t : Int) (l : List TBucket) : cnt (downL f t l) = cnt l := by simp [cnt, downL, Function.comp_def]
theorem downL_self (s : Int) (l : List TBucket) : downL s s l = l := by
  unfold downL
  conv => rhs; rw [← List.map_id l]
  apply List.map_congr_left
  intro b _; rw [upI_self]; rfl
theorem downL_downL {a b c : Int} (h1 : b ≤ a) (h2 : c ≤ b) (l : List TBucket) : downL b c (downL a b l) = downL a c l := by
  unfold downL
  rw [List.map_map]
  apply List.map_congr_left
  intro x _; simp [upI_upI h1 h2]
theorem tot_downL (f t : Int) (l : List TBucket) (j : Int) : tot (downL f t l) j = wsum l (fun i => if upI f t i = j then 1 else 0) := by
  induction l with
  | nil => rfl
  | cons b l ih =>
    simp only [downL, List.map_cons, tot, wsum_cons] at *
    rw [ih]
    congr 1
    by_cases h : upI f t b.f0 = j <;> simp [h]
theorem tot_downL_congr {l l' : List TBucket} (h : ∀ i, tot l i = tot l' i) (f t j : Int) : tot (downL f t l) j = tot (downL f t l') j := by
  rw [tot_downL, tot_downL, wsum_congr h]

theorem down_l0 (l : List TBucket) (f t : Int) (hf : RightS f) (ht : RightS t) (h : t ≤ f) (hl : l.length < 1000000) (hi : ∀ b ∈ l, InS f b.f0) : ∀ (suf pre o : List TBucket) (i : Int), l = pre ++ suf → i = (pre.length : Int) → o.length = pre.length →
    f_meld_down.l0 l f t o i = some (o ++ downL f t suf) := by
  intro suf
  induction suf with
  | nil =>
    intro pre o i h1 hi0 _
    subst h1
    rw [f_meld_down.l0, if_neg (by simp [hi0])]
    simp [downL]
  | cons x suf ih =>
    intro pre o i h1 hi0 ho
    have hx := hi x (by rw [h1]; simp)
    have hlen : (l.length : Int) = pre.length + (suf.length + 1) := by rw [h1]; simp
    rw [f_meld_down.l0, if_pos (by simp; omega), at_mid h1 hi0, sb, to_eq hf ht h hx, sb, chkB (by simp; omega), wrap64 (by omega) (by omega)]
    rw [ih (pre ++ [x]) _ (i + 1) (by simp [h1]) (by simp; omega) (by simp; omega)]
    simp [downL]
theorem down_eq (l : List TBucket) (f t : Int) (hf : RightS f) (ht : RightS t) (h : t ≤ f) (hl : l.length < 1000000) (hi : ∀ b ∈ l, InS f b.f0) : f_meld_down.f l f t = some (downL f t l) := by
  unfold f_meld_down.f
  rw [down_l0 l f t hf ht h hl hi l [] [] 0 rfl rfl rfl]; simp

def h0 : THist := ⟨0, 0, 0, 0, 0, 0, [], []⟩

theorem side_cs {s z : Int} {l : List TBucket} (h : Side s z l) : Cs s l := ⟨by have := h.len; omega, fun b hb => (h.ok b hb).ins, fun b hb => (h.ok b hb).pos⟩
theorem cs_down {f t : Int} {l : List TBucket} (hf : RightS f) (ht : RightS t) (h : t ≤ f) (hc : Cs f l) : Cs t (downL f t l) :=
  ⟨by rw [downL_len]; exact hc.len, fun b hb => by
    obtain ⟨x, hx, rfl⟩ := List.mem_map.1 hb
    exact upI_in hf ht h (hc.ins x hx), fun b hb => by
    obtain ⟨x, hx, rfl⟩ := List.mem_map.1 hb
    exact hc.pos x hx⟩

/-- A histogram's cut: by a schema, from a place on. -/
structure Cut (a : THist) (s z : Int) (r : THist) : Prop where
  valid : Valid r
  fits : Fits r
  kind : r.f0 = a.f0
  schema : r.f1 = s
  zeroAt : r.f2 = z
  count : r.f4 = a.f4
  sum : r.f5 = a.f5
  tpos : ∀ i, tot r.f6 i = if above s z i = true then tot (downL a.f1 s a.f6) i else 0
  tneg : ∀ i, tot r.f7 i = if above s z i = true then tot (downL a.f1 s a.f7) i else 0

theorem hist_ext {a b : THist} (e0 : a.f0 = b.f0) (e1 : a.f1 = b.f1) (e2 : a.f2 = b.f2) (e3 : a.f3 = b.f3) (e4 : a.f4 = b.f4) (e5 : a.f5 = b.f5) (e6 : a.f6 = b.f6) (e7 : a.f7 = b.f7) : a = b := by
  cases a; cases b; simp_all

/-- Histograms that may be are one, if they have as many, and as much of each. -/
theorem valid_ext {a b : THist} (ha : Valid a) (hb : Valid b) (e0 : a.f0 = b.f0) (e1 : a.f1 = b.f1) (e2 : a.f2 = b.f2) (e4 : a.f4 = b.f4) (e5 : a.f5 = b.f5) (t6 : ∀ i, tot a.f6 i = tot b.f6 i) (t7 : ∀ i, tot a.f7 i = tot b.f7 i) : a = b := by
  have q6 := canon_unique ha.pos.canon hb.pos.canon t6
  have q7 := canon_unique ha.neg.canon hb.neg.canon t7
  have h1 := ha.count
  have h2 := hb.count
  rw [q6, q7] at h1
  exact hist_ext e0 e1 e2 (by omega) e4 e5 q6 q7
theorem Cut.unique {a : THist} {s z : Int} {r r' : THist} (h : Cut a s z r) (h' : Cut a s z r') : r = r' :=
  valid_ext h.valid h'.valid (h.kind.trans h'.kind.symm) (h.schema.trans h'.schema.symm) (h.zeroAt.trans h'.zeroAt.symm) (h.count.trans h'.count.symm) (h.sum.trans h'.sum.symm) (fun i => (h.tpos i).trans (h'.tpos i).symm) (fun i => (h.tneg i).trans (h'.tneg i).symm)

theorem Down_eq (a : THist) (s : Int) (hv : Valid a) (hf : Fits a) (hs : RightS s) (hle : s ≤ a.f1) :
    ∃ r, f_meld_Down.f a s = some (r, 0) ∧ Cut a s (zAt s a.f2 (downL a.f1 s a.f6) (downL a.f1 s a.f7)) r := by
  have l1 := hv.pos.len
  have l2 := hv.neg.len
  have h1 := hv.count
  have h2 := hv.total
  obtain ⟨r, e, h⟩ := swallow_eq (⟨a.f0, s, a.f2, a.f3, a.f4, a.f5, a.f6, a.f7⟩ : THist) (downL a.f1 s a.f6) (downL a.f1 s a.f7) a.f2 hv.kind hs hv.zero hf.zero.1 hf.sum (cs_down hv.schema hs hle (side_cs hv.pos)) (cs_down hv.schema hs hle (side_cs hv.neg))
    (by rw [downL_len]; exact l1) (by rw [downL_len]; exact l2) (by rw [cnt_downL, cnt_downL]; exact h2)
  refine ⟨r, ?_, ⟨h.valid, h.fits, h.kind, h.schema, h.zeroAt, by rw [h.count, cnt_downL, cnt_downL]; exact h1.symm, h.sum, h.tpos, h.tneg⟩⟩
  unfold f_meld_Down.f
  rw [right_T hs, sb, if_neg (by simp), sb, if_neg (by simp; omega), down_eq a.f6 a.f1 s hv.schema hs hle (by omega) (side_cs hv.pos).ins, down_eq a.f7 a.f1 s hv.schema hs hle (by omega) (side_cs hv.neg).ins, sb, sb, e]
  rfl
theorem Down_bad (a : THist) (s : Int) (h : ¬ (RightS s ∧ s ≤ a.f1)) : f_meld_Down.f a s = some (h0, 20) := by
  unfold f_meld_Down.f
  by_cases hs : RightS s
  · rw [right_T hs, sb, if_neg (by simp), sb, if_pos (by simp; have : ¬ s ≤ a.f1 := fun q => h ⟨hs, q⟩; omega)]; rfl
  · rw [right_F hs, sb, if_pos (by simp), sb, if_pos rfl]; rfl

theorem clone_eq (a : THist) (h1 : a.f6.length < 1000000000) (h2 : a.f7.length < 1000000000) : f_hist_Clone.f a = some a := by
  unfold f_hist_Clone.f
  rw [clone_inst _ h1, clone_inst _ h2]; rfl

/-- What Widen makes of a histogram that may be. -/
theorem Widen_swal (a : THist) (z : Int) (hv : Valid a) (hf : Fits a) (hz : -262144 < z ∧ z ≤ 262144) (hlt : a.f2 < z) :
    ∃ r, f_meld_Widen.f a z = some (r, 0) ∧ Swal a a.f6 a.f7 z r := by
  obtain ⟨r, e, h⟩ := swallow_eq a a.f6 a.f7 z hv.kind hv.schema (.inr hz) hf.zero.1 hf.sum (side_cs hv.pos) (side_cs hv.neg) hv.pos.len hv.neg.len hv.total
  refine ⟨r, ?_, h⟩
  unfold f_meld_Widen.f
  rw [if_neg (by simp; omega), if_neg (by simp; omega), if_neg (by simp; omega), sb, if_neg (by simp; omega), e]; rfl
theorem Widen_same (a : THist) (hv : Valid a) : f_meld_Widen.f a a.f2 = some (a, 0) := by
  have l1 := hv.pos.len
  have l2 := hv.neg.len
  unfold f_meld_Widen.f
  rw [if_neg (by simp), if_pos (by simp), clone_eq a (by omega) (by omega)]; rfl
theorem Widen_bad (a : THist) (z : Int) (h : z < a.f2 ∨ (z ≠ a.f2 ∧ ¬ (-262144 < z ∧ z ≤ 262144))) : f_meld_Widen.f a z = some (h0, 31) := by
  unfold f_meld_Widen.f
  by_cases h1 : z < a.f2
  · rw [if_pos (by simpa using h1)]; rfl
  · rw [if_neg (by simpa using h1)]
    have h2 := h.resolve_left h1
    rw [if_neg (by simpa using h2.1)]
    have : ((if (decide (z ≤ (-262144))) = true then (some true) else (some (decide (z > (262144 : Int))))) : Option (Bool)) = some true := by
      by_cases h3 : z ≤ -262144
      · rw [if_pos (by simpa using h3)]
      · rw [if_neg (by simpa using h3)]; simp; omega
    rw [this, sb, if_pos rfl]; rfl

/-- A cut that is widened is a cut. -/
theorem Cut.widen {a r r' : THist} {s z z' : Int} (h : Cut a s z r) (hz : z ≤ z') (hw : Swal r r.f6 r.f7 z' r') : Cut a s (zAt s z' r.f6 r.f7) r' := by
  have hle := zAt_le s z' r.f6 r.f7
  have hc := h.valid.count
  have key : ∀ i (u v : Int), u = (if above s z i = true then v else 0) → (if above s (zAt s z' r.f6 r.f7) i = true then u else 0) = if above s (zAt s z' r.f6 r.f7) i = true then v else 0 := by
    intro i u v hu
    by_cases h1 : zAt s z' r.f6 r.f7 < i * stp s
    · simp only [decide_eq_true_eq]
      rw [if_pos h1, if_pos h1, hu]; simp only [decide_eq_true_eq]; rw [if_pos (by omega)]
    · simp only [decide_eq_true_eq]; rw [if_neg h1, if_neg h1]
  have hs := h.schema
  refine ⟨hw.valid, hw.fits, hw.kind.trans h.kind, hw.schema.trans hs, ?_, ?_, hw.sum.trans h.sum, fun i => ?_, fun i => ?_⟩
  · rw [hw.zeroAt, hs]
  · rw [hw.count, ← h.count, hc]
  · rw [hw.tpos i, hs]; exact key i _ _ (h.tpos i)
  · rw [hw.tneg i, hs]; exact key i _ _ (h.tneg i)

/-- Nothing is cut at its own middle. -/
theorem no_strad {s z a : Int} {l : List TBucket} (h : ∀ b ∈ l, BOk s z b) (ha : a ≤ z) : ¬ Strad s a l := by
  rintro ⟨b, hb, h1, h2⟩
  have := (h b hb).low
  omega
theorem no_strad_cg {s a : Int} {l : List TBucket} : ¬ Strad s (cg s a) l := by
  rintro ⟨b, hb, h1, h2⟩
  have hp := Int.le_of_lt (stp_pos s)
  unfold cg at *
  have := Int.lt_of_mul_lt_mul_right h1 hp
  have := Int.lt_of_mul_lt_mul_right h2 hp
  omega
theorem zAt_no {s a : Int} {p n : List TBucket} (h1 : ¬ Strad s a p) (h2 : ¬ Strad s a n) : zAt s a p n = a := by
  unfold zAt; rw [if_neg (by rintro (h | h) <;> contradiction)]
theorem zAt_or (s a : Int) (p n : List TBucket) : zAt s a p n = a ∧ ¬ Strad s a p ∧ ¬ Strad s a n ∨ zAt s a p n = cg s a := by
  unfold zAt
  by_cases h : Strad s a p ∨ Strad s a n
  · exact .inr (if_pos h)
  · exact .inl ⟨if_neg h, fun q => h (.inl q), fun q => h (.inr q)⟩

end Go.Proofs.Yticdbkmekkbiiaa.PvGB3
