import Derived.Test.YticdbkmekkbiiaaPlTidyB3
set_option linter.unusedVariables false
set_option linter.unusedSimpArgs false
/-! Histograms: totals, checks, what Make makes. -/
namespace Go.Proofs.Yticdbkmekkbiiaa.PvGB3
open Go Go.Pv Go.Pv.GS

def cnt (l : List TBucket) : Int := (l.map (·.f1)).sum
theorem cnt_nonneg {l : List TBucket} (h : Nn l) : 0 ≤ cnt l := isum_nonneg (fun x hx => by
  obtain ⟨b, hb, rfl⟩ := List.mem_map.1 hx; exact h b hb)
theorem cnt_cons (b : TBucket) (l : List TBucket) : cnt (b :: l) = b.f1 + cnt l := by simp [cnt]
theorem cnt_append (a b : List TBucket) : cnt (a ++ b) = cnt a + cnt b := by simp [cnt]

theorem total_l1 (a0 : List (List TBucket)) (x769 : Int) (l : List TBucket) (hl : l.length < 1000000000) : ∀ (suf pre : List TBucket) (acc i : Int), l = pre ++ suf → i = (pre.length : Int) → U64 acc → (∀ b ∈ suf, U64 b.f1) →
    f_hist_total.l1 a0 l x769 acc i = some (if acc + cnt suf < 18446744073709551616 then .inr (acc + cnt suf) else .inl (0, 5)) := by
  intro suf
  induction suf with
  | nil =>
    intro pre acc i h1 hi ha hs
    subst h1
    rw [f_hist_total.l1, if_neg (by simp [hi])]
    simp [cnt, ha.2]
  | cons x suf ih =>
    intro pre acc i h1 hi ha hs
    have hx := hs x (by simp)
    have hs' : ∀ y ∈ suf, U64 y.f1 := fun y hy => hs y (by simp [hy])
    have hnn : 0 ≤ cnt suf := cnt_nonneg (fun y hy => (hs' y hy).1)
    have hlen : (l.length : Int) = pre.length + (suf.length + 1) := by rw [h1]; simp
    rw [f_hist_total.l1, if_pos (by simp; omega), at_mid h1 hi, sb, num_add2 ha hx, sb, wrap64 (by omega) (by omega), cnt_cons]
    by_cases hov : acc + x.f1 < 18446744073709551616
    · rw [if_pos hov, if_neg (by simp), ih (pre ++ [x]) (acc + x.f1) (i + 1) (by simp [h1]) (by simp; omega) ⟨by omega, hov⟩ hs', Int.add_assoc]
    · rw [if_neg hov, if_pos (by simp), if_neg (by omega)]

theorem total_l0 (a0 : List (List TBucket)) (ha0 : a0.length < 1000000000) : ∀ (suf pre : List (List TBucket)) (acc i : Int), a0 = pre ++ suf → i = (pre.length : Int) → U64 acc → (∀ l ∈ suf, l.length < 1000000000 ∧ ∀ b ∈ l, U64 b.f1) →
    f_hist_total.l0 a0 acc i = some (if acc + (suf.map cnt).sum < 18446744073709551616 then .inr (acc + (suf.map cnt).sum) else .inl (0, 5)) := by
  intro suf
  induction suf with
  | nil =>
    intro pre acc i h1 hi ha hs
    subst h1
    rw [f_hist_total.l0, if_neg (by simp [hi])]
    simp [ha.2]
  | cons x suf ih =>
    intro pre acc i h1 hi ha hs
    have hx := hs x (by simp)
    have hs' : ∀ l ∈ suf, l.length < 1000000000 ∧ ∀ b ∈ l, U64 b.f1 := fun y hy => hs y (by simp [hy])
    have hx0 : 0 ≤ cnt x := cnt_nonneg (fun y hy => (hx.2 y hy).1)
    have hnn : 0 ≤ (suf.map cnt).sum := isum_nonneg (fun y hy => by
      obtain ⟨l, hl, rfl⟩ := List.mem_map.1 hy; exact cnt_nonneg (fun y hy => ((hs' l hl).2 y hy).1))
    have hlen : (a0.length : Int) = pre.length + (suf.length + 1) := by rw [h1]; simp
    rw [f_hist_total.l0, if_pos (by simp; omega), at_mid h1 hi, sb, total_l1 a0 i x hx.1 x [] acc 0 rfl rfl ha hx.2, sb, wrap64 (by omega) (by omega), List.map_cons, List.sum_cons]
    by_cases hov : acc + cnt x < 18446744073709551616
    · rw [if_pos hov]
      simp only []
      rw [ih (pre ++ [x]) (acc + cnt x) (i + 1) (by simp [h1]) (by simp; omega) ⟨by omega, hov⟩ hs', Int.add_assoc]
    · rw [if_neg hov, if_neg (by omega)]

theorem total3 (p n : List TBucket) (z : Int) (hp : p.length < 1000000000) (hn : n.length < 1000000000) (hpU : ∀ b ∈ p, U64 b.f1) (hnU : ∀ b ∈ n, U64 b.f1) (hz : U64 z) :
    f_hist_total.f [p, n, [(⟨0, z⟩ : TBucket)]] = some (if cnt p + cnt n + z < 18446744073709551616 then (cnt p + cnt n + z, 0) else (0, 5)) := by
  unfold f_hist_total.f
  rw [total_l0 [p, n, [(⟨0, z⟩ : TBucket)]] (by simp) [p, n, [(⟨0, z⟩ : TBucket)]] [] 0 0 rfl rfl (by omega) (by
    intro l hl
    simp only [List.mem_cons, List.not_mem_nil, or_false] at hl
    rcases hl with rfl | rfl | rfl
    · exact ⟨hp, hpU⟩
    · exact ⟨hn, hnU⟩
    · exact ⟨by simp, by simp; exact hz⟩), sb]
  have e : 0 + (([p, n, [(⟨0, z⟩ : TBucket)]] : List (List TBucket)).map cnt).sum = cnt p + cnt n + z := by simp [cnt]; omega
  rw [e]
  by_cases h : cnt p + cnt n + z < 18446744073709551616
  · rw [if_pos h, if_pos h]
  · rw [if_neg h, if_neg h]

/-! ### bound -/
theorem right_eq (s : Int) : f_bound_Right.f s = some (decide (-4 ≤ s) && decide (s ≤ 8)) := by
  unfold f_bound_Right.f
  rw [ifand]; rfl
def RightS (s : Int) : Prop := -4 ≤ s ∧ s ≤ 8
instance (s : Int) : Decidable (RightS s) := inferInstanceAs (Decidable (_ ∧ _))
theorem right_T {s : Int} (h : RightS s) : f_bound_Right.f s = some true := by rw [right_eq]; simp [h.1, h.2]
theorem right_F {s : Int} (h : ¬ RightS s) : f_bound_Right.f s = some false := by rw [right_eq]; simp [RightS] at h ⊢; omega
/-- A unit's steps. -/
def stp (s : Int) : Int := 2 ^ (8 - s).toNat
theorem stp_pos (s : Int) : 0 < stp s := by unfold stp; exact Int.pow_pos (by omega)
theorem stp_le {s : Int} (h : RightS s) : stp s ≤ 4096 := by
  have h1 := h.1
  have h2 := h.2
  have : s = -4 ∨ s = -3 ∨ s = -2 ∨ s = -1 ∨ s = 0 ∨ s = 1 ∨ s = 2 ∨ s = 3 ∨ s = 4 ∨ s = 5 ∨ s = 6 ∨ s = 7 ∨ s = 8 := by omega
  rcases this with rfl | rfl | rfl | rfl | rfl | rfl | rfl | rfl | rfl | rfl | rfl | rfl | rfl <;> decide
theorem shift_eq {s : Int} (h : RightS s) : min (Int.toNat (IntKind.u64.wrap (IntKind.i64.wrap ((8 : Int) - s)))) 64 = (8 - s).toNat := by
  have h1 := h.1
  have h2 := h.2
  rw [wrap64 (by omega) (by omega), wrapU (by omega) (by omega)]; omega
theorem most_T {s : Int} (h : RightS s) : f_bound_Most.f s = some (262144 / stp s) := by
  unfold f_bound_Most.f f_bound_shift.f
  rw [right_T h, sb, if_neg (by simp), sb, chkB (u64_wrap _).1, shift_eq h, Int.fdiv_eq_ediv_of_nonneg _ (by exact Int.le_of_lt (stp_pos s))]
  rfl
theorem most_F {s : Int} (h : ¬ RightS s) : f_bound_Most.f s = some 0 := by
  unfold f_bound_Most.f
  rw [right_F h, sb, if_pos (by simp)]
theorem units_T {s i : Int} (h : RightS s) (hi : -1000000000000 < i ∧ i < 1000000000000) : f_bound_Units.f s i = some (i * stp s) := by
  unfold f_bound_Units.f f_bound_shift.f
  rw [right_T h, sb, if_neg (by simp), sb, chkB (u64_wrap _).1, shift_eq h]
  have h1 := stp_pos s
  have h2 := stp_le h
  have h3 : i * stp s ≤ 1000000000000 * 4096 := by
    by_cases h0 : 0 ≤ i
    · exact Int.mul_le_mul (by omega) h2 (by omega) (by omega)
    · have : i * stp s ≤ 0 := Int.mul_nonpos_of_nonpos_of_nonneg (by omega) (by omega); omega
  have h4 : -(1000000000000 * 4096) ≤ i * stp s := by
    by_cases h0 : 0 ≤ i
    · have : 0 ≤ i * stp s := Int.mul_nonneg h0 (by omega); omega
    · have : -i * stp s ≤ 1000000000000 * 4096 := Int.mul_le_mul (by omega) h2 (by omega) (by omega)
      rw [Int.neg_mul] at this; omega
  show some (IntKind.i64.wrap (i * stp s)) = _
  rw [wrap64 (by omega) (by omega)]
theorem units_some (s i : Int) : ∃ r, f_bound_Units.f s i = some r := by
  unfold f_bound_Units.f f_bound_shift.f
  by_cases h : RightS s
  · rw [right_T h, sb, if_neg (by simp), sb, chkB (u64_wrap _).1]; exact ⟨_, rfl⟩
  · rw [right_F h, sb, if_pos (by simp)]; exact ⟨_, rfl⟩
theorem low_some (s i : Int) : ∃ r, f_bound_Low.f s i = some r := by
  unfold f_bound_Low.f
  obtain ⟨r, e⟩ := units_some s (IntKind.i64.wrap (i - 1))
  rw [e]; exact ⟨_, rfl⟩
theorem least_some (s : Int) : ∃ r, f_bound_Least.f s = some r := by
  unfold f_bound_Least.f
  by_cases h : RightS s
  · rw [most_T h]; exact ⟨_, rfl⟩
  · rw [most_F h]; exact ⟨_, rfl⟩
theorem most_some (s : Int) : ∃ r, f_bound_Most.f s = some r := by
  by_cases h : RightS s
  · exact ⟨_, most_T h⟩
  · exact ⟨_, most_F h⟩
theorem in_some (s i : Int) : ∃ r, f_bound_In.f s i = some r := by
  unfold f_bound_In.f
  obtain ⟨r1, e1⟩ := least_some s
  obtain ⟨r2, e2⟩ := most_some s
  rw [e1, e2, right_eq, sb, sb, sb]
  split
  · split <;> exact ⟨_, rfl⟩
  · exact ⟨_, rfl⟩

/-! ### Check -/
theorem buckets_l0_some (h : THist) (l : List TBucket) (hl : l.length < 1000000000) : ∀ (suf pre : List TBucket) (i : Int), l = pre ++ suf → i = (pre.length : Int) → ∃ r, f_hist_buckets.l0 h l i = some r := by
  intro suf
  induction suf with
  | nil =>
    intro pre i h1 hi
    subst h1
    rw [f_hist_buckets.l0, if_neg (by simp [hi])]; exact ⟨_, rfl⟩
  | cons x suf ih =>
    intro pre i h1 hi
    have hlen : (l.length : Int) = pre.length + (suf.length + 1) := by rw [h1]; simp
    obtain ⟨b1, e1⟩ := in_some h.f1 x.f0
    obtain ⟨b2, e2⟩ := low_some h.f1 x.f0
    obtain ⟨r, e3⟩ := ih (pre ++ [x]) (i + 1) (by simp [h1]) (by simp; omega)
    rw [f_hist_buckets.l0, if_pos (by simp; omega), at_mid h1 hi, sb, e1, sb, e2, sb, wrap64 (n := i + 1) (by omega) (by omega), e3]
    by_cases c1 : (!b1) = true
    · rw [if_pos c1]; exact ⟨_, rfl⟩
    rw [if_neg c1]
    have : ∃ c, ((if (decide (i > (0 : Int))) = true then ((at? l (IntKind.i64.wrap (i - (1 : Int)))) >>= fun b922 => some (decide (b922.f0 ≥ x.f0))) else (some false)) : Option (Bool)) = some c := by
      by_cases h0 : i > 0
      · rw [if_pos (by simpa using h0), wrap64 (by omega) (by omega), at_lt (by omega) (by omega)]; exact ⟨_, rfl⟩
      · rw [if_neg (by simpa using h0)]; exact ⟨_, rfl⟩
    obtain ⟨c, ec⟩ := this
    rw [ec, sb]
    split
    · exact ⟨_, rfl⟩
    · split
      · exact ⟨_, rfl⟩
      · split <;> exact ⟨_, rfl⟩
theorem buckets_some (h : THist) (l : List TBucket) (hl : l.length < 1000000000) : ∃ r, f_hist_buckets.f h l = some r := by
  unfold f_hist_buckets.f
  obtain ⟨r, e⟩ := buckets_l0_some h l hl l [] 0 rfl rfl
  rw [e, sb]
  split
  · exact ⟨_, rfl⟩
  · cases r <;> exact ⟨_, rfl⟩

theorem check_l0_eq (h : THist) : f_hist_Check.l0 h 0 = ((f_hist_buckets.f h h.f6) >>= fun t => if (t != (0 : Int)) = true then some (.inl t) else (f_hist_buckets.f h h.f7) >>= fun t => if (t != (0 : Int)) = true then some (.inl t) else some (.inr ())) := by
  have w1 : IntKind.i64.wrap (0 + 1) = 1 := by decide
  have w2 : IntKind.i64.wrap (1 + 1) = 2 := by decide
  rw [f_hist_Check.l0, if_pos (by decide), chkB (by omega), if_pos (by decide), sb, w1]
  congr 1
  funext t
  split
  · rfl
  · rw [f_hist_Check.l0, if_pos (by decide), chkB (by omega), if_neg (by decide), sb, w2]
    congr 1
    funext t
    split
    · rfl
    · rw [f_hist_Check.l0, if_neg (by decide)]

/-- A histogram's parts are within their bounds. -/
structure Fits (h : THist) : Prop where
  kind : I64 h.f0
  schema : I64 h.f1
  zeroAt : I64 h.f2
  zero : U64 h.f3
  count : U64 h.f4
  sum : I64 h.f5
  pos : ∀ b ∈ h.f6, I64 b.f0 ∧ U64 b.f1
  neg : ∀ b ∈ h.f7, I64 b.f0 ∧ U64 b.f1

theorem fits_of {h : THist} (r : RHist h) : Fits h := ⟨r.r0, r.r1, r.r2, r.r3, r.r4, r.r5, fun b hb => let q := r.r6.2 b hb; ⟨q.r0, q.r1⟩, fun b hb => let q := r.r7.2 b hb; ⟨q.r0, q.r1⟩⟩

theorem check_some (h : THist) (hf : Fits h) (hp : h.f6.length < 1000000000) (hn : h.f7.length < 1000000000) : ∃ r, f_hist_Check.f h = some r := by
  unfold f_hist_Check.f
  obtain ⟨r1, e1⟩ := buckets_some h h.f6 hp
  obtain ⟨r2, e2⟩ := buckets_some h h.f7 hn
  rw [check_l0_eq, e1, e2, sb, right_eq, sb, total3 _ _ _ hp hn (fun b hb => (hf.pos b hb).2) (fun b hb => (hf.neg b hb).2) hf.zero, sb]
  have : ∃ c, ((if (h.f0 != (0 : Int)) = true then (some (h.f0 != (1 : Int))) else (some false)) : Option (Bool)) = some c := by split <;> exact ⟨_, rfl⟩
  obtain ⟨c, ec⟩ := this
  rw [ec, sb]
  split
  · exact ⟨_, rfl⟩
  split
  · exact ⟨_, rfl⟩
  have : ∃ c, ((if (h.f2 != (-524288)) = true then (if (decide (h.f2 ≤ (-262144))) = true then (some true) else (some (decide (h.f2 > (262144 : Int))))) else (some false)) : Option (Bool)) = some c := by
    split
    · split <;> exact ⟨_, rfl⟩
    · exact ⟨_, rfl⟩
  obtain ⟨c, ec⟩ := this
  rw [ec, sb]
  split
  · exact ⟨_, rfl⟩
  have : ∃ c, ((if (r1 != (0 : Int)) = true then some (.inl r1) else if (r2 != (0 : Int)) = true then some (.inl r2) else some (.inr ())) : Option (Int ⊕ Unit)) = some c := by
    split
    · exact ⟨_, rfl⟩
    · split <;> exact ⟨_, rfl⟩
  obtain ⟨c, ec⟩ := this
  rw [ec, sb]
  cases c with
  | inl r => exact ⟨_, rfl⟩
  | inr u =>
    simp only []
    rw [sb]
    generalize (if cnt h.f6 + cnt h.f7 + h.f3 < 18446744073709551616 then ((cnt h.f6 + cnt h.f7 + h.f3, 0) : Int × Int) else (0, 5)) = q
    split
    · exact ⟨_, rfl⟩
    · split <;> exact ⟨_, rfl⟩

theorem equal_self (l : List TBucket) (hl : l.length < 1000000000) : f_slices_Equal_api_Bucket.f l l = some true := by
  unfold f_slices_Equal_api_Bucket.f
  rw [if_neg (by simp)]
  have : ∀ (suf pre : List TBucket) (i : Int), l = pre ++ suf → i = (pre.length : Int) → f_slices_Equal_api_Bucket.l0 l l i = some (.inr ()) := by
    intro suf
    induction suf with
    | nil => intro pre i h1 hi; subst h1; rw [f_slices_Equal_api_Bucket.l0, if_neg (by simp [hi])]
    | cons x suf ih =>
      intro pre i h1 hi
      have hlen : (l.length : Int) = pre.length + (suf.length + 1) := by rw [h1]; simp
      rw [f_slices_Equal_api_Bucket.l0, if_pos (by simp; omega), at_mid h1 hi, sb, sb, if_neg (by simp), wrap64 (by omega) (by omega)]
      exact ih (pre ++ [x]) (i + 1) (by simp [h1]) (by simp; omega)
  rw [this l [] 0 rfl rfl]; rfl
theorem same_self (h : THist) (hp : h.f6.length < 1000000000) (hn : h.f7.length < 1000000000) : f_hist_Same.f h h = some true := by
  unfold f_hist_Same.f
  rw [equal_self _ hp, equal_self _ hn]
  simp [sb]

/-- What Make makes: nothing and an error, or a histogram that is checked, which is made again of its own buckets. -/
theorem make_spec (h : THist) (p n : List TBucket) (hf : Fits h) (hp : p.length < 10000000) (hn : n.length < 10000000) (hpU : ∀ b ∈ p, I64 b.f0 ∧ U64 b.f1) (hnU : ∀ b ∈ n, I64 b.f0 ∧ U64 b.f1) :
    ∃ r e, f_hist_Make.f h p n = some (r, e) ∧ r.f6.length < 10000000 ∧ r.f7.length < 10000000 ∧ (e ≠ 0 → r = ⟨0, 0, 0, 0, 0, 0, [], []⟩) ∧
      (e = 0 → Fits r ∧ f_hist_Check.f r = some 0 ∧ f_hist_Make.f r r.f6 r.f7 = some (r, 0) ∧ Canon r.f6 ∧ Canon r.f7 ∧ (∀ i, tot r.f6 i = tot p i) ∧ (∀ i, tot r.f7 i = tot n i) ∧
        r.f0 = h.f0 ∧ r.f1 = h.f1 ∧ r.f2 = h.f2 ∧ r.f3 = h.f3 ∧ r.f5 = h.f5 ∧ r.f4 = cnt r.f6 + cnt r.f7 + r.f3) := by
  rcases tidy_spec p (by omega) (fun b hb => (hpU b hb).2) with ⟨o, e1, c1, t1, u1, s1, l1⟩ | ⟨e1, i1, t1⟩
  case inr =>
    have : ∃ q, f_hist_tidy.f n = some q := by
      rcases tidy_spec n (by omega) (fun b hb => (hnU b hb).2) with ⟨o, e2, _⟩ | ⟨e2, _⟩ <;> exact ⟨_, e2⟩
    obtain ⟨⟨q, e2'⟩, e2⟩ := this
    have hq : e2' = 0 ∨ e2' = 5 := by
      rcases tidy_spec n (by omega) (fun b hb => (hnU b hb).2) with ⟨o, e3, _⟩ | ⟨e3, _⟩ <;> rw [e2] at e3 <;> simp at e3 <;> simp [e3.2]
    unfold f_hist_Make.f
    rw [e1, e2, sb, sb]
    have : (if e2' > 5 then e2' else 5) = (5 : Int) := by rcases hq with rfl | rfl <;> rfl
    simp only [this]
    exact ⟨_, _, rfl, by simp, by simp, fun _ => rfl, fun h => by simp at h⟩
  rcases tidy_spec n (by omega) (fun b hb => (hnU b hb).2) with ⟨o2, e2, c2, t2, u2, s2, l2⟩ | ⟨e2, i2, t2⟩
  case inr =>
    unfold f_hist_Make.f
    rw [e1, e2, sb, sb]
    exact ⟨_, _, rfl, by simp, by simp, fun _ => rfl, fun h => by simp at h⟩
  have hpos : ∀ b ∈ o, I64 b.f0 ∧ U64 b.f1 := fun b hb => by
    obtain ⟨q, hq, e⟩ := s1 b hb
    exact ⟨e ▸ (hpU q hq).1, u1 b hb⟩
  have hneg : ∀ b ∈ o2, I64 b.f0 ∧ U64 b.f1 := fun b hb => by
    obtain ⟨q, hq, e⟩ := s2 b hb
    exact ⟨e ▸ (hnU q hq).1, u2 b hb⟩
  have htot := total3 o o2 h.f3 (by omega) (by omega) u1 u2 hf.zero
  by_cases hov : cnt o + cnt o2 + h.f3 < 18446744073709551616
  case neg =>
    rw [if_neg hov] at htot
    unfold f_hist_Make.f
    rw [e1, e2, sb, sb, if_neg (by simp), htot, sb, if_pos (by simp)]
    exact ⟨_, _, rfl, by simp, by simp, fun _ => rfl, fun h => by simp at h⟩
  rw [if_pos hov] at htot
  have hn0 := cnt_nonneg c1.nn
  have hn1 := cnt_nonneg c2.nn
  have hz := hf.zero
  have hr : Fits (⟨h.f0, h.f1, h.f2, h.f3, cnt o + cnt o2 + h.f3, h.f5, o, o2⟩ : THist) := ⟨hf.kind, hf.schema, hf.zeroAt, hf.zero, ⟨by simp; omega, hov⟩, hf.sum, hpos, hneg⟩
  obtain ⟨c, ec⟩ := check_some _ hr (by simp; omega) (by simp; omega)
  by_cases hc : c = 0
  case neg =>
    unfold f_hist_Make.f
    rw [e1, e2, sb, sb, if_neg (by simp), htot, sb, if_neg (by simp), ec, sb, if_pos (by simpa using hc)]
    exact ⟨_, _, rfl, by simp, by simp, fun _ => rfl, fun h => absurd h hc⟩
  subst hc
  have key : ∀ (g : THist) (p n : List TBucket), f_hist_tidy.f p = some (o, 0) → f_hist_tidy.f n = some (o2, 0) → g.f0 = h.f0 → g.f1 = h.f1 → g.f2 = h.f2 → g.f3 = h.f3 → g.f5 = h.f5 → f_hist_Make.f g p n = some ((⟨h.f0, h.f1, h.f2, h.f3, cnt o + cnt o2 + h.f3, h.f5, o, o2⟩ : THist), 0) := by
    intro g p n q1 q2 g0 g1 g2 g3 g5
    unfold f_hist_Make.f
    rw [q1, q2, sb, sb, if_neg (by simp), g3, htot, sb, if_neg (by simp), g0, g1, g2, g5, ec, sb, if_neg (by simp)]
  exact ⟨_, 0, key h p n e1 e2 rfl rfl rfl rfl rfl, by simp; omega, by simp; omega, fun h => absurd rfl h, fun _ =>
    ⟨hr, ec, key _ o o2 (tidy_id o (by omega) u1 c1) (tidy_id o2 (by omega) u2 c2) rfl rfl rfl rfl rfl, c1, c2, t1, t2, rfl, rfl, rfl, rfl, rfl, rfl⟩⟩
end Go.Proofs.Yticdbkmekkbiiaa.PvGB3
