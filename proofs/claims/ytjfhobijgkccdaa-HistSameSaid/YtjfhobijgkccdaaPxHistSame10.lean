import Derived.Test.YtjfhobijgkccdaaPxHistSame09
set_option linter.unusedVariables false
set_option linter.unusedSimpArgs false
namespace Go.Proofs.Ytjfhobijgkccdaa.PvGA3
open Go Go.Pv Go.Pv.GS
theorem num_add_l0 (l : List Int) (hl : l.length < 4611686018427387904) : ∀ (suf pre : List Int) (acc i : Int), l = pre ++ suf → i = (pre.length : Int) → U64 acc → (∀ x ∈ suf, U64 x) →
    f_num_Add.l0 l acc i = some (if acc + suf.sum < 18446744073709551616 then .inr (acc + suf.sum) else .inl (0, 5)) := by
  intro suf
  induction suf with
  | nil =>
    intro pre acc i h1 hi ha hs
    subst h1
    rw [f_num_Add.l0, if_neg (by simp [hi])]
    simp [ha.2]
  | cons x suf ih =>
    intro pre acc i h1 hi ha hs
    have hx := hs x (by simp)
    have hs' : ∀ y ∈ suf, U64 y := fun y hy => hs y (by simp [hy])
    have hnn : 0 ≤ suf.sum := isum_nonneg (fun y hy => (hs' y hy).1)
    rw [f_num_Add.l0, if_pos (by rw [h1]; simp [hi]; omega)]
    rw [at_mid h1 hi, sb, chkB ⟨ha.1, hx.1, by omega, by omega⟩]
    have hlen : (l.length : Int) = pre.length + (suf.length + 1) := by rw [h1]; simp
    by_cases hov : acc + x < 18446744073709551616
    · rw [if_neg (by simp; omega), wrap64 (by omega) (by omega), show (acc + x + 0) % 18446744073709551616 = acc + x by omega]
      rw [ih (pre ++ [x]) (acc + x) (i + 1) (by simp [h1]) (by simp; omega) ⟨by omega, hov⟩ hs']
      rw [List.sum_cons, Int.add_assoc]
    · rw [if_pos (by simp; omega), if_neg (by rw [List.sum_cons]; omega)]
theorem num_add (l : List Int) (hl : l.length < 4611686018427387904) (h : ∀ x ∈ l, U64 x) :
    f_num_Add.f l = some (if l.sum < 18446744073709551616 then (l.sum, 0) else (0, 5)) := by
  unfold f_num_Add.f
  rw [num_add_l0 l hl l [] 0 0 rfl rfl (by omega) h, sb, Int.zero_add]
  by_cases h : l.sum < 18446744073709551616
  · rw [if_pos h, if_pos h]
  · rw [if_neg h, if_neg h]
theorem num_add2 {a b : Int} (ha : U64 a) (hb : U64 b) : f_num_Add.f [a, b] = some (if a + b < 18446744073709551616 then (a + b, 0) else (0, 5)) := by
  rw [num_add [a, b] (by simp) (by simp; exact ⟨ha, hb⟩)]
  simp
end Go.Proofs.Ytjfhobijgkccdaa.PvGA3
set_option linter.unusedVariables false
set_option linter.unusedSimpArgs false
namespace Go.Proofs.Ytjfhobijgkccdaa.PvGA3
open Go Go.Pv Go.Pv.GS
def tot : List TBucket → Int → Int
  | [], _ => 0
  | b :: l, i => (if b.f0 = i then b.f1 else 0) + tot l i
abbrev Nn (l : List TBucket) : Prop := ∀ b ∈ l, 0 ≤ b.f1
theorem tot_zero {l : List TBucket} {i : Int} (h : ∀ b ∈ l, b.f0 ≠ i) : tot l i = 0 := by
  induction l with
  | nil => rfl
  | cons b l ih => rw [tot, if_neg (h b (by simp)), ih (fun y hy => h y (by simp [hy]))]; rfl
structure Canon (l : List TBucket) : Prop where
  up : l.Pairwise (fun a b => a.f0 < b.f0)
  pos : ∀ b ∈ l, 0 < b.f1
theorem Canon.tail {x : TBucket} {l : List TBucket} (h : Canon (x :: l)) : Canon l := ⟨(List.pairwise_cons.1 h.up).2, fun b hb => h.pos b (by simp [hb])⟩
theorem Canon.tot_head {x : TBucket} {l : List TBucket} (h : Canon (x :: l)) : tot (x :: l) x.f0 = x.f1 := by
  rw [tot, tot_zero (fun b hb => by have := (List.pairwise_cons.1 h.up).1 b hb; omega)]; simp
theorem Canon.tot_low {x : TBucket} {l : List TBucket} (h : Canon (x :: l)) {i : Int} (hi : i < x.f0) : tot (x :: l) i = 0 :=
  tot_zero (fun b hb => by
    rcases List.mem_cons.1 hb with rfl | hb
    · omega
    · have := (List.pairwise_cons.1 h.up).1 b hb; omega)
theorem Canon.tot_of {l : List TBucket} (h : Canon l) {b : TBucket} (hb : b ∈ l) : tot l b.f0 = b.f1 := by
  induction l with
  | nil => simp at hb
  | cons x l ih =>
    rcases List.mem_cons.1 hb with rfl | hb
    · exact h.tot_head
    · have := (List.pairwise_cons.1 h.up).1 b hb
      rw [tot, if_neg (by omega), ih h.tail hb]; omega
theorem canon_unique : ∀ {a b : List TBucket}, Canon a → Canon b → (∀ i, tot a i = tot b i) → a = b
  | [], [], _, _, _ => rfl
  | [], y :: b, _, hb, h => by
    have h1 := h y.f0
    rw [hb.tot_head] at h1
    have := hb.pos y (by simp)
    simp [tot] at h1; omega
  | x :: a, [], ha, _, h => by
    have h1 := h x.f0
    rw [ha.tot_head] at h1
    have := ha.pos x (by simp)
    simp [tot] at h1; omega
  | x :: a, y :: b, ha, hb, h => by
    have hx := ha.pos x (by simp)
    have hy := hb.pos y (by simp)
    have e0 : x.f0 = y.f0 := by
      by_cases h1 : x.f0 < y.f0
      · have := h x.f0; rw [ha.tot_head, hb.tot_low h1] at this; omega
      · by_cases h2 : y.f0 < x.f0
        · have := h y.f0; rw [hb.tot_head, ha.tot_low h2] at this; omega
        · omega
    have e1 : x.f1 = y.f1 := by
      have := h x.f0
      rw [ha.tot_head, e0, hb.tot_head] at this; exact this
    have e : x = y := by cases x; cases y; simp_all
    subst e
    rw [canon_unique ha.tail hb.tail (fun i => by have := h i; simp only [tot] at this; omega)]
theorem clone_inst (l : List TBucket) (h : l.length < 1000000000) : f_slices_Clone_api_Bucket.f l = some l := by
  unfold f_slices_Clone_api_Bucket.f
  rw [chkB (by simp; omega)]
structure TidyI (pre out : List TBucket) : Prop where
  canon : Canon out
  seen : ∀ o ∈ out, ∃ p ∈ pre, p.f0 = o.f0
  tots : ∀ i, tot out i = tot pre i
  u64 : ∀ o ∈ out, U64 o.f1
  len : out.length ≤ pre.length
end Go.Proofs.Ytjfhobijgkccdaa.PvGA3
set_option linter.unusedVariables false
set_option linter.unusedSimpArgs false
namespace Go.Proofs.Ytjfhobijgkccdaa.PvGA3
open Go Go.Pv Go.Pv.GS
def cnt (l : List TBucket) : Int := (l.map (·.f1)).sum
theorem cnt_nonneg {l : List TBucket} (h : Nn l) : 0 ≤ cnt l := isum_nonneg (fun x hx => by
  obtain ⟨b, hb, rfl⟩ := List.mem_map.1 hx; exact h b hb)
theorem cnt_cons (b : TBucket) (l : List TBucket) : cnt (b :: l) = b.f1 + cnt l := by simp [cnt]
theorem total_l1 (a0 : List (List TBucket)) (x769 : Int) (l : List TBucket) (hl : l.length < 1000000000) : ∀ (suf pre : List TBucket) (acc i : Int), l = pre ++ suf → i = (pre.length : Int) → U64 acc → (∀ b ∈ suf, U64 b.f1) →
    f_hist_total.l1 a0 l x769 acc i = some (if acc + cnt suf < 18446744073709551616 then .inr (acc + cnt suf) else .inl (0, 5)) := by
  intro suf
  induction suf with
  | nil =>
    intro pre acc i h1 hi ha hs
    subst h1
    rw [f_hist_total.l1, if_neg (by simp [hi])]
    simp [cnt, ha.2]
  | cons x suf ih =>
    intro pre acc i h1 hi ha hs
    have hx := hs x (by simp)
    have hs' : ∀ y ∈ suf, U64 y.f1 := fun y hy => hs y (by simp [hy])
    have hnn : 0 ≤ cnt suf := cnt_nonneg (fun y hy => (hs' y hy).1)
    have hlen : (l.length : Int) = pre.length + (suf.length + 1) := by rw [h1]; simp
    rw [f_hist_total.l1, if_pos (by simp; omega), at_mid h1 hi, sb, num_add2 ha hx, sb, wrap64 (by omega) (by omega), cnt_cons]
    by_cases hov : acc + x.f1 < 18446744073709551616
    · rw [if_pos hov, if_neg (by simp), ih (pre ++ [x]) (acc + x.f1) (i + 1) (by simp [h1]) (by simp; omega) ⟨by omega, hov⟩ hs', Int.add_assoc]
    · rw [if_neg hov, if_pos (by simp), if_neg (by omega)]
theorem total_l0 (a0 : List (List TBucket)) (ha0 : a0.length < 1000000000) : ∀ (suf pre : List (List TBucket)) (acc i : Int), a0 = pre ++ suf → i = (pre.length : Int) → U64 acc → (∀ l ∈ suf, l.length < 1000000000 ∧ ∀ b ∈ l, U64 b.f1) →
    f_hist_total.l0 a0 acc i = some (if acc + (suf.map cnt).sum < 18446744073709551616 then .inr (acc + (suf.map cnt).sum) else .inl (0, 5)) := by
  intro suf
  induction suf with
  | nil =>
    intro pre acc i h1 hi ha hs
    subst h1
    rw [f_hist_total.l0, if_neg (by simp [hi])]
    simp [ha.2]
  | cons x suf ih =>
    intro pre acc i h1 hi ha hs
    have hx := hs x (by simp)
    have hs' : ∀ l ∈ suf, l.length < 1000000000 ∧ ∀ b ∈ l, U64 b.f1 := fun y hy => hs y (by simp [hy])
    have hx0 : 0 ≤ cnt x := cnt_nonneg (fun y hy => (hx.2 y hy).1)
    have hnn : 0 ≤ (suf.map cnt).sum := isum_nonneg (fun y hy => by
      obtain ⟨l, hl, rfl⟩ := List.mem_map.1 hy; exact cnt_nonneg (fun y hy => ((hs' l hl).2 y hy).1))
    have hlen : (a0.length : Int) = pre.length + (suf.length + 1) := by rw [h1]; simp
    rw [f_hist_total.l0, if_pos (by simp; omega), at_mid h1 hi, sb, total_l1 a0 i x hx.1 x [] acc 0 rfl rfl ha hx.2, sb, wrap64 (by omega) (by omega), List.map_cons, List.sum_cons]
    by_cases hov : acc + cnt x < 18446744073709551616
    · rw [if_pos hov]
      simp only []
      rw [ih (pre ++ [x]) (acc + cnt x) (i + 1) (by simp [h1]) (by simp; omega) ⟨by omega, hov⟩ hs', Int.add_assoc]
    · rw [if_neg hov, if_neg (by omega)]
theorem total3 (p n : List TBucket) (z : Int) (hp : p.length < 1000000000) (hn : n.length < 1000000000) (hpU : ∀ b ∈ p, U64 b.f1) (hnU : ∀ b ∈ n, U64 b.f1) (hz : U64 z) :
    f_hist_total.f [p, n, [(⟨0, z⟩ : TBucket)]] = some (if cnt p + cnt n + z < 18446744073709551616 then (cnt p + cnt n + z, 0) else (0, 5)) := by
  unfold f_hist_total.f
  rw [total_l0 [p, n, [(⟨0, z⟩ : TBucket)]] (by simp) [p, n, [(⟨0, z⟩ : TBucket)]] [] 0 0 rfl rfl (by omega) (by
    intro l hl
    simp only [List.mem_cons, List.not_mem_nil, or_false] at hl
    rcases hl with rfl | rfl | rfl
    · exact ⟨hp, hpU⟩
    · exact ⟨hn, hnU⟩
    · exact ⟨by simp, by simp; exact hz⟩), sb]
  have e : 0 + (([p, n, [(⟨0, z⟩ : TBucket)]] : List (List TBucket)).map cnt).sum = cnt p + cnt n + z := by simp [cnt]; omega
  rw [e]
  by_cases h : cnt p + cnt n + z < 18446744073709551616
  · rw [if_pos h, if_pos h]
  · rw [if_neg h, if_neg h]
theorem right_eq (s : Int) : f_bound_Right.f s = some (decide (-4 ≤ s) && decide (s ≤ 8)) := by
  unfold f_bound_Right.f
  rw [ifand]; rfl
def RightS (s : Int) : Prop := -4 ≤ s ∧ s ≤ 8
instance (s : Int) : Decidable (RightS s) := inferInstanceAs (Decidable (_ ∧ _))
theorem right_T {s : Int} (h : RightS s) : f_bound_Right.f s = some true := by rw [right_eq]; simp [h.1, h.2]
theorem right_F {s : Int} (h : ¬ RightS s) : f_bound_Right.f s = some false := by rw [right_eq]; simp [RightS] at h ⊢; omega
def stp (s : Int) : Int := 2 ^ (8 - s).toNat
theorem stp_pos (s : Int) : 0 < stp s := by unfold stp; exact Int.pow_pos (by omega)
theorem stp_le {s : Int} (h : RightS s) : stp s ≤ 4096 := by
  have h1 := h.1
  have h2 := h.2
  have : s = -4 ∨ s = -3 ∨ s = -2 ∨ s = -1 ∨ s = 0 ∨ s = 1 ∨ s = 2 ∨ s = 3 ∨ s = 4 ∨ s = 5 ∨ s = 6 ∨ s = 7 ∨ s = 8 := by omega
  rcases this with rfl | rfl | rfl | rfl | rfl | rfl | rfl | rfl | rfl | rfl | rfl | rfl | rfl <;> decide
theorem shift_eq {s : Int} (h : RightS s) : min (Int.toNat (IntKind.u64.wrap (IntKind.i64.wrap ((8 : Int) - s)))) 64 = (8 - s).toNat := by
  have h1 := h.1
  have h2 := h.2
  rw [wrap64 (by omega) (by omega), wrapU (by omega) (by omega)]; omega
theorem most_T {s : Int} (h : RightS s) : f_bound_Most.f s = some (262144 / stp s) := by
  unfold f_bound_Most.f f_bound_shift.f
  rw [right_T h, sb, if_neg (by simp), sb, chkB (u64_wrap _).1, shift_eq h, Int.fdiv_eq_ediv_of_nonneg _ (by exact Int.le_of_lt (stp_pos s))]
  rfl
theorem units_T {s i : Int} (h : RightS s) (hi : -1000000000000 < i ∧ i < 1000000000000) : f_bound_Units.f s i = some (i * stp s) := by
  unfold f_bound_Units.f f_bound_shift.f
  rw [right_T h, sb, if_neg (by simp), sb, chkB (u64_wrap _).1, shift_eq h]
  have h1 := stp_pos s
  have h2 := stp_le h
  have h3 : i * stp s ≤ 1000000000000 * 4096 := by
    by_cases h0 : 0 ≤ i
    · exact Int.mul_le_mul (by omega) h2 (by omega) (by omega)
    · have : i * stp s ≤ 0 := Int.mul_nonpos_of_nonpos_of_nonneg (by omega) (by omega); omega
  have h4 : -(1000000000000 * 4096) ≤ i * stp s := by
    by_cases h0 : 0 ≤ i
    · have : 0 ≤ i * stp s := Int.mul_nonneg h0 (by omega); omega
    · have : -i * stp s ≤ 1000000000000 * 4096 := Int.mul_le_mul (by omega) h2 (by omega) (by omega)
      rw [Int.neg_mul] at this; omega
  show some (IntKind.i64.wrap (i * stp s)) = _
  rw [wrap64 (by omega) (by omega)]
theorem check_l0_eq (h : THist) : f_hist_Check.l0 h 0 = ((f_hist_buckets.f h h.f6) >>= fun t => if (t != (0 : Int)) = true then some (.inl t) else (f_hist_buckets.f h h.f7) >>= fun t => if (t != (0 : Int)) = true then some (.inl t) else some (.inr ())) := by
  have w1 : IntKind.i64.wrap (0 + 1) = 1 := by decide
  have w2 : IntKind.i64.wrap (1 + 1) = 2 := by decide
  rw [f_hist_Check.l0, if_pos (by decide), chkB (by omega), if_pos (by decide), sb, w1]
  congr 1
  funext t
  split
  · rfl
  · rw [f_hist_Check.l0, if_pos (by decide), chkB (by omega), if_neg (by decide), sb, w2]
    congr 1
    funext t
    split
    · rfl
    · rw [f_hist_Check.l0, if_neg (by decide)]
structure Fits (h : THist) : Prop where
  kind : I64 h.f0
  schema : I64 h.f1
  zeroAt : I64 h.f2
  zero : U64 h.f3
  count : U64 h.f4
  sum : I64 h.f5
  pos : ∀ b ∈ h.f6, I64 b.f0 ∧ U64 b.f1
  neg : ∀ b ∈ h.f7, I64 b.f0 ∧ U64 b.f1
theorem fits_of {h : THist} (r : RHist h) : Fits h := ⟨r.r0, r.r1, r.r2, r.r3, r.r4, r.r5, fun b hb => let q := r.r6.2 b hb; ⟨q.r0, q.r1⟩, fun b hb => let q := r.r7.2 b hb; ⟨q.r0, q.r1⟩⟩
end Go.Proofs.Ytjfhobijgkccdaa.PvGA3
set_option linter.unusedVariables false
set_option linter.unusedSimpArgs false
namespace Go.Proofs.Ytjfhobijgkccdaa.PvGA3
open Go Go.Pv Go.Pv.GS
theorem stp_dvd {s : Int} (h : RightS s) : 262144 / stp s * stp s = 262144 := by
  have h1 := h.1
  have h2 := h.2
  have : s = -4 ∨ s = -3 ∨ s = -2 ∨ s = -1 ∨ s = 0 ∨ s = 1 ∨ s = 2 ∨ s = 3 ∨ s = 4 ∨ s = 5 ∨ s = 6 ∨ s = 7 ∨ s = 8 := by omega
  rcases this with rfl | rfl | rfl | rfl | rfl | rfl | rfl | rfl | rfl | rfl | rfl | rfl | rfl <;> decide
def InS (s i : Int) : Prop := -262144 < i * stp s ∧ i * stp s ≤ 262144
instance (s i : Int) : Decidable (InS s i) := inferInstanceAs (Decidable (_ ∧ _))
theorem inS_iff {s i : Int} (h : RightS s) : InS s i ↔ -(262144 / stp s) + 1 ≤ i ∧ i ≤ 262144 / stp s := by
  have hp := stp_pos s
  have hd := stp_dvd h
  unfold InS
  generalize 262144 / stp s = q at *
  generalize stp s = st at *
  constructor
  · rintro ⟨h1, h2⟩
    constructor
    · have : -q * st < i * st := by rw [Int.neg_mul]; omega
      have := Int.lt_of_mul_lt_mul_right this (Int.le_of_lt hp); omega
    · have : i * st ≤ q * st := by omega
      exact Int.le_of_mul_le_mul_right this hp
  · rintro ⟨h1, h2⟩
    constructor
    · have := Int.mul_lt_mul_of_pos_right (show -q < i by omega) hp
      rw [Int.neg_mul] at this; omega
    · have := Int.mul_le_mul_of_nonneg_right h2 (Int.le_of_lt hp); omega
theorem inS_small {s i : Int} (hi : InS s i) : -262144 < i ∧ i ≤ 262144 := by
  have hp := stp_pos s
  obtain ⟨h1, h2⟩ := hi
  constructor
  · by_cases h : i ≤ -262144
    · have := Int.mul_le_mul_of_nonneg_right h (Int.le_of_lt hp)
      have h3 : -262144 * stp s ≤ -262144 * 1 := by
        have := Int.mul_le_mul_of_nonneg_left (show 1 ≤ stp s by omega) (show (0 : Int) ≤ 262144 by omega)
        omega
      omega
    · omega
  · by_cases h : 262144 < i
    · have := Int.mul_le_mul_of_nonneg_right (show 262145 ≤ i by omega) (Int.le_of_lt hp)
      have h3 := Int.mul_le_mul_of_nonneg_left (show 1 ≤ stp s by omega) (show (0 : Int) ≤ 262145 by omega)
      omega
    · omega
theorem in_T {s i : Int} (h : RightS s) : f_bound_In.f s i = some (decide (InS s i)) := by
  have hp := stp_pos s
  have hq : 0 ≤ 262144 / stp s ∧ 262144 / stp s ≤ 262144 := ⟨Int.ediv_nonneg (by omega) (by omega), Int.ediv_le_self _ (by omega)⟩
  unfold f_bound_In.f f_bound_Least.f
  rw [right_T h, most_T h]
  simp only [sb, if_pos]
  rw [wrap64 (n := 0 - _) (by omega) (by omega), wrap64 (by omega) (by omega), ifand, sb]
  congr 1
  rw [← Bool.decide_and, decide_eq_decide, inS_iff h]
  constructor <;> intro h <;> constructor <;> omega
theorem low_T {s i : Int} (h : RightS s) (hi : InS s i) : f_bound_Low.f s i = some ((i - 1) * stp s) := by
  have := inS_small hi
  unfold f_bound_Low.f
  rw [wrap64 (by omega) (by omega), units_T h (by omega)]; rfl
theorem ref_right (s : Int) : f_pluvialref04_Right.f s = some (decide (RightS s)) := by
  unfold f_pluvialref04_Right.f
  rw [ifand, ← Bool.decide_and]; rfl
theorem ref_step_l0 (s : Int) : ∀ (n : Nat) (x i : Int), i ≤ 8 → 8 - i = (n : Int) → -4 ≤ i → 0 ≤ x → x * 2 ^ n ≤ 4096 → f_pluvialref04_step.l0 x i = some (x * 2 ^ n) := by
  intro n
  induction n with
  | zero => intro x i h1 h2 h3 h4 h5; rw [f_pluvialref04_step.l0, if_neg (by simp; omega)]; simp
  | succ n ih =>
    intro x i h1 h2 h3 h4 h5
    have e : x * 2 ^ (n + 1) = x * 2 * 2 ^ n := by rw [Int.pow_succ, Int.mul_assoc, Int.mul_comm 2]
    have hp : (0 : Int) < 2 ^ n := Int.pow_pos (by omega)
    have hle : x * 2 ≤ 4096 := by
      have := Int.mul_le_mul_of_nonneg_left (show (1 : Int) ≤ 2 ^ n by omega) (show 0 ≤ x * 2 by omega)
      omega
    rw [f_pluvialref04_step.l0, if_pos (by simp; omega), wrap64 (n := x * 2) (by omega) (by omega), wrap64 (n := i + 1) (by omega) (by omega), ih (x * 2) (i + 1) (by omega) (by omega) (by omega) (by omega) (by omega), e]
theorem ref_step {s : Int} (h : RightS s) : f_pluvialref04_step.f s = some (stp s) := by
  unfold f_pluvialref04_step.f
  have h1 := h.1
  have h2 := h.2
  rw [ref_step_l0 s (8 - s).toNat 1 s h2 (by omega) h1 (by omega) (by rw [Int.one_mul]; exact stp_le h)]
  simp [stp]
theorem ref_units {s i : Int} (h : RightS s) (hi : -1000000000000 < i ∧ i < 1000000000000) : f_pluvialref04_Units.f s i = some (i * stp s) := by
  unfold f_pluvialref04_Units.f
  rw [ref_right, sb, if_neg (by simp [h]), ref_step h, sb]
  have h1 := stp_pos s
  have h2 := stp_le h
  have h3 : i * stp s ≤ 1000000000000 * 4096 := by
    by_cases h0 : 0 ≤ i
    · exact Int.mul_le_mul (by omega) h2 (by omega) (by omega)
    · have : i * stp s ≤ 0 := Int.mul_nonpos_of_nonpos_of_nonneg (by omega) (by omega); omega
  have h4 : -(1000000000000 * 4096) ≤ i * stp s := by
    by_cases h0 : 0 ≤ i
    · have : 0 ≤ i * stp s := Int.mul_nonneg h0 (by omega); omega
    · have : -i * stp s ≤ 1000000000000 * 4096 := Int.mul_le_mul (by omega) h2 (by omega) (by omega)
      rw [Int.neg_mul] at this; omega
  rw [wrap64 (by omega) (by omega)]
theorem ref_in {s i : Int} (h : RightS s) (hi : I64 i) : f_pluvialref04_In.f s i = some (decide (InS s i)) := by
  unfold f_pluvialref04_In.f
  rw [ref_right, sb, if_pos (by simp [h])]
  by_cases h1 : i > -262144
  · rw [if_pos (by simpa using h1)]
    by_cases h2 : i ≤ 262144
    · rw [if_pos (by simpa using h2), ref_units h (by omega), sb]
      by_cases h3 : i * stp s > -262144
      · rw [if_pos (by simpa using h3), sb, sb]
        congr 1
        rw [decide_eq_decide]
        exact ⟨fun h => ⟨h3, h⟩, fun h => h.2⟩
      · rw [if_neg (by simpa using h3), sb]
        have : ¬ InS s i := fun h => h3 h.1
        simp [this]
    · rw [if_neg (by simpa using h2), sb]
      have : ¬ InS s i := fun h => by have := inS_small h; omega
      simp [this]
  · rw [if_neg (by simpa using h1), sb]
    have : ¬ InS s i := fun h => by have := inS_small h; omega
    simp [this]
end Go.Proofs.Ytjfhobijgkccdaa.PvGA3
set_option linter.unusedVariables false
set_option linter.unusedSimpArgs false
namespace Go.Proofs.Ytjfhobijgkccdaa.PvGA3
open Go Go.Pv Go.Pv.GS
structure BOk (s z : Int) (b : TBucket) : Prop where
  ins : InS s b.f0
  pos : 0 < b.f1
  low : z ≤ (b.f0 - 1) * stp s
def Up : Option Int → List TBucket → Prop
  | _, [] => True
  | p, b :: l => (∀ q, p = some q → q < b.f0) ∧ Up (some b.f0) l
theorem up_iff : ∀ (l : List TBucket) (p : Option Int), Up p l ↔ (∀ q, p = some q → ∀ b ∈ l, q < b.f0) ∧ l.Pairwise (fun a b => a.f0 < b.f0)
  | [], p => by simp [Up]
  | x :: l, p => by
    rw [Up, up_iff l, List.pairwise_cons]
    constructor
    · rintro ⟨h1, h2, h3⟩
      refine ⟨fun q hq b hb => ?_, fun b hb => h2 _ rfl b hb, h3⟩
      have h4 := h1 q hq
      rcases List.mem_cons.1 hb with rfl | hb
      · exact h4
      · have := h2 _ rfl b hb; omega
    · rintro ⟨h1, h2, h3⟩
      exact ⟨fun q hq => h1 q hq x (by simp), fun q hq b hb => by cases hq; exact h2 b hb, h3⟩
structure Side (s z : Int) (l : List TBucket) : Prop where
  len : l.length ≤ 512
  ok : ∀ b ∈ l, BOk s z b
  up : l.Pairwise (fun a b => a.f0 < b.f0)
theorem Side.canon {s z : Int} {l : List TBucket} (h : Side s z l) : Canon l := ⟨h.up, fun b hb => (h.ok b hb).pos⟩
structure Valid (h : THist) : Prop where
  kind : h.f0 = 0 ∨ h.f0 = 1
  schema : RightS h.f1
  zero : h.f2 = -524288 ∨ (-262144 < h.f2 ∧ h.f2 ≤ 262144)
  pos : Side h.f1 h.f2 h.f6
  neg : Side h.f1 h.f2 h.f7
  total : cnt h.f6 + cnt h.f7 + h.f3 < 18446744073709551616
  count : h.f4 = cnt h.f6 + cnt h.f7 + h.f3
theorem last_pre {l pre : List TBucket} {x : TBucket} {suf : List TBucket} {i : Int} (h1 : l = pre ++ x :: suf) (hi : i = (pre.length : Int)) (h0 : 0 < i) (hl : l.length < 1000000000) :
    ∃ q, (pre.getLast?).map (·.f0) = some q ∧ ∃ y, at? l (IntKind.i64.wrap (i - 1)) = some y ∧ y.f0 = q := by
  rcases List.eq_nil_or_concat pre with rfl | ⟨P, p, rfl⟩
  · simp at hi; omega
  · simp only [List.concat_eq_append] at *
    have hlen : l.length = P.length + 1 + (suf.length + 1) := by rw [h1]; simp; omega
    have hi2 : i = (P.length : Int) + 1 := by rw [hi]; simp
    rw [wrap64 (by omega) (by omega)]
    exact ⟨p.f0, by simp, p, at_mid (pre := P) (suf := x :: suf) (by simp [h1]) (by omega), rfl⟩
theorem no_pre {pre : List TBucket} {i : Int} (hi : i = (pre.length : Int)) (h0 : ¬ 0 < i) : (pre.getLast?).map (·.f0) = none := by
  have : pre = [] := List.length_eq_zero_iff.1 (by omega)
  subst this; rfl
theorem buckets_l0 (h : THist) (l : List TBucket) (hs : RightS h.f1) (hl : l.length < 1000000000) : ∀ (suf pre : List TBucket) (i : Int), l = pre ++ suf → i = (pre.length : Int) → (∀ b ∈ suf, U64 b.f1) →
    ∃ r, f_hist_buckets.l0 h l i = some r ∧ (∀ c, r = .inl c → c ≠ 0) ∧ (r = .inr () ↔ (∀ b ∈ suf, BOk h.f1 h.f2 b) ∧ Up ((pre.getLast?).map (·.f0)) suf) := by
  intro suf
  induction suf with
  | nil =>
    intro pre i h1 hi _
    subst h1
    rw [f_hist_buckets.l0, if_neg (by simp [hi])]
    exact ⟨_, rfl, by simp, by simp [Up]⟩
  | cons x suf ih =>
    intro pre i h1 hi hU
    have hx := hU x (by simp)
    have hlen : (l.length : Int) = pre.length + (suf.length + 1) := by rw [h1]; simp
    rw [f_hist_buckets.l0, if_pos (by simp; omega), at_mid h1 hi, sb, in_T hs, sb]
    by_cases c1 : InS h.f1 x.f0
    case neg =>
      rw [if_pos (by simp [c1])]
      exact ⟨_, rfl, by simp, by simp; intro h; exact absurd h.ins c1⟩
    rw [if_neg (by simp [c1])]
    have hprev : ∃ c : Bool, ((if (decide (i > (0 : Int))) = true then ((at? l (IntKind.i64.wrap (i - (1 : Int)))) >>= fun b922 => some (decide (b922.f0 ≥ x.f0))) else (some false)) : Option (Bool)) = some c ∧ (c = false ↔ ∀ q, (pre.getLast?).map (·.f0) = some q → q < x.f0) := by
      by_cases h0 : 0 < i
      · obtain ⟨q, e1, y, e2, e3⟩ := last_pre h1 hi h0 hl
        rw [if_pos (by simpa using h0), e2, sb]
        exact ⟨_, rfl, by rw [e1, e3]; simp⟩
      · rw [if_neg (by simpa using h0)]
        exact ⟨_, rfl, by rw [no_pre hi h0]; simp⟩
    obtain ⟨c, ec, hc⟩ := hprev
    rw [ec, sb, low_T hs c1]
    cases c with
    | true =>
      rw [if_pos rfl]
      refine ⟨_, rfl, by simp, by simp; intro _ _ h2; exact absurd (hc.2 h2.1) (by simp)⟩
    | false =>
      rw [if_neg (by simp)]
      by_cases c2 : x.f1 = 0
      · rw [if_pos (by simpa using c2)]
        exact ⟨_, rfl, by simp, by simp; intro h; have := h.pos; omega⟩
      rw [if_neg (by simpa using c2), sb]
      by_cases c3 : (x.f0 - 1) * stp h.f1 < h.f2
      · rw [if_pos (by simpa using c3)]
        exact ⟨_, rfl, by simp, by simp; intro h; have := h.low; omega⟩
      rw [if_neg (by simpa using c3), wrap64 (n := i + 1) (by omega) (by omega)]
      obtain ⟨r, e, e1, e2⟩ := ih (pre ++ [x]) (i + 1) (by simp [h1]) (by simp; omega) (fun b hb => hU b (by simp [hb]))
      refine ⟨r, e, e1, ?_⟩
      rw [e2]
      simp only [List.getLast?_append, List.getLast?_singleton, Option.some_or, Option.map_some, Up, List.forall_mem_cons]
      have hb : BOk h.f1 h.f2 x := ⟨c1, by omega, by omega⟩
      constructor
      · rintro ⟨a, b⟩; exact ⟨⟨hb, a⟩, hc.1 rfl, b⟩
      · rintro ⟨⟨_, a⟩, _, b⟩; exact ⟨a, b⟩
theorem buckets_iff (h : THist) (l : List TBucket) (hs : RightS h.f1) (hl : l.length < 1000000000) (hU : ∀ b ∈ l, U64 b.f1) : ∃ r, f_hist_buckets.f h l = some r ∧ (r = 0 ↔ Side h.f1 h.f2 l) := by
  unfold f_hist_buckets.f
  by_cases h0 : l.length > 512
  · rw [if_pos (by simp; omega)]
    exact ⟨_, rfl, by simp; intro h; have := h.len; omega⟩
  · rw [if_neg (by simp; omega)]
    obtain ⟨r, e, e1, e2⟩ := buckets_l0 h l hs hl l [] 0 rfl rfl hU
    rw [e, sb]
    cases r with
    | inl c =>
      refine ⟨c, rfl, ?_⟩
      constructor
      · intro h; exact absurd h (e1 c rfl)
      · intro h
        exact absurd (e2.2 ⟨h.ok, (up_iff l _).2 ⟨by simp, h.up⟩⟩) (by simp)
    | inr u =>
      refine ⟨0, rfl, ?_⟩
      obtain ⟨h1, h2⟩ := e2.1 rfl
      exact ⟨fun _ => ⟨by omega, h1, ((up_iff l _).1 h2).2⟩, fun _ => rfl⟩
theorem check_iff (h : THist) (hf : Fits h) (hp : h.f6.length < 1000000000) (hn : h.f7.length < 1000000000) : ∃ r, f_hist_Check.f h = some r ∧ (r = 0 ↔ Valid h) := by
  unfold f_hist_Check.f
  have hk : ((if (h.f0 != (0 : Int)) = true then (some (h.f0 != (1 : Int))) else (some false)) : Option (Bool)) = some (!decide (h.f0 = 0 ∨ h.f0 = 1)) := by
    by_cases h1 : h.f0 = 0
    · simp [h1]
    · by_cases h2 : h.f0 = 1 <;> simp [h1, h2]
  rw [hk, sb]
  by_cases c1 : h.f0 = 0 ∨ h.f0 = 1
  case neg => rw [if_pos (by simpa using c1)]; exact ⟨_, rfl, by simp; intro h; exact c1 h.kind⟩
  rw [if_neg (by rw [decide_eq_true c1]; decide)]
  by_cases c2 : RightS h.f1
  case neg => rw [right_F c2, sb, if_pos (by simp)]; exact ⟨_, rfl, by simp; intro h; exact c2 h.schema⟩
  rw [right_T c2, sb, if_neg (by simp)]
  have hz : ((if (h.f2 != (-524288)) = true then (if (decide (h.f2 ≤ (-262144))) = true then (some true) else (some (decide (h.f2 > (262144 : Int))))) else (some false)) : Option (Bool)) = some (!decide (h.f2 = -524288 ∨ (-262144 < h.f2 ∧ h.f2 ≤ 262144))) := by
    by_cases h1 : h.f2 = -524288
    · simp [h1]
    · by_cases h2 : h.f2 ≤ -262144
      · simp [h1, h2]
      · have h4 : -262144 < h.f2 := by omega
        by_cases h3 : h.f2 ≤ 262144
        · simp [h1, h2, h3, h4]
        · simp [h1, h2, h3, h4]; omega
  rw [hz, sb]
  by_cases c3 : h.f2 = -524288 ∨ (-262144 < h.f2 ∧ h.f2 ≤ 262144)
  case neg => rw [if_pos (by simp [c3])]; exact ⟨_, rfl, by simp; intro h; exact c3 h.zero⟩
  rw [if_neg (by simp [c3])]
  obtain ⟨r1, e1, i1⟩ := buckets_iff h h.f6 c2 hp (fun b hb => (hf.pos b hb).2)
  obtain ⟨r2, e2, i2⟩ := buckets_iff h h.f7 c2 hn (fun b hb => (hf.neg b hb).2)
  rw [check_l0_eq, e1, e2, sb, sb]
  by_cases d1 : r1 = 0
  case neg => rw [if_pos (by simpa using d1), sb]; exact ⟨_, rfl, ⟨fun h => absurd h d1, fun h => absurd (i1.2 h.pos) d1⟩⟩
  rw [if_neg (by simpa using d1)]
  by_cases d2 : r2 = 0
  case neg => rw [if_pos (by simpa using d2), sb]; exact ⟨_, rfl, ⟨fun h => absurd h d2, fun h => absurd (i2.2 h.neg) d2⟩⟩
  rw [if_neg (by simpa using d2), sb]
  simp only []
  rw [total3 _ _ _ hp hn (fun b hb => (hf.pos b hb).2) (fun b hb => (hf.neg b hb).2) hf.zero, sb]
  by_cases c4 : cnt h.f6 + cnt h.f7 + h.f3 < 18446744073709551616
  case neg => rw [if_neg c4, if_pos (by simp)]; exact ⟨_, rfl, by simp; intro h; exact c4 h.total⟩
  rw [if_pos c4, if_neg (by simp)]
  by_cases c5 : cnt h.f6 + cnt h.f7 + h.f3 = h.f4
  · rw [if_neg (by simpa using c5)]
    exact ⟨0, rfl, fun _ => ⟨c1, c2, c3, i1.1 d1, i2.1 d2, c4, c5.symm⟩, fun _ => rfl⟩
  · rw [if_pos (by simpa using c5)]
    exact ⟨_, rfl, by simp; intro h; exact c5 h.count.symm⟩
theorem check_T (h : THist) (hf : Fits h) (hv : Valid h) : f_hist_Check.f h = some 0 := by
  have hl := hv.pos.len
  have hl2 := hv.neg.len
  obtain ⟨r, e, i⟩ := check_iff h hf (by omega) (by omega)
  rw [e, i.2 hv]
theorem ref_add_l0 (l : List Int) (hl : l.length < 4611686018427387904) : ∀ (suf pre : List Int) (acc i : Int), l = pre ++ suf → i = (pre.length : Int) → U64 acc → (∀ x ∈ suf, U64 x) →
    f_pluvialref01_Add.l0 l acc i = some (if acc + suf.sum < 18446744073709551616 then .inr (acc + suf.sum) else .inl (0, 5)) := by
  intro suf
  induction suf with
  | nil =>
    intro pre acc i h1 hi ha hs
    subst h1
    rw [f_pluvialref01_Add.l0, if_neg (by simp [hi])]
    simp [ha.2]
  | cons x suf ih =>
    intro pre acc i h1 hi ha hs
    have hx := hs x (by simp)
    have hs' : ∀ y ∈ suf, U64 y := fun y hy => hs y (by simp [hy])
    have hnn : 0 ≤ suf.sum := isum_nonneg (fun y hy => (hs' y hy).1)
    have hlen : (l.length : Int) = pre.length + (suf.length + 1) := by rw [h1]; simp
    rw [f_pluvialref01_Add.l0, if_pos (by rw [h1]; simp [hi]; omega), at_mid h1 hi, sb, wrapU (n := 18446744073709551615 - acc) (by omega) (by omega)]
    by_cases hov : acc + x < 18446744073709551616
    · rw [if_neg (by simp; omega), wrap64 (by omega) (by omega), wrapU (by omega) (by omega)]
      rw [ih (pre ++ [x]) (acc + x) (i + 1) (by simp [h1]) (by simp; omega) ⟨by omega, hov⟩ hs']
      rw [List.sum_cons, Int.add_assoc]
    · rw [if_pos (by simp; omega), if_neg (by rw [List.sum_cons]; omega)]
theorem ref_add (l : List Int) (hl : l.length < 4611686018427387904) (h : ∀ x ∈ l, U64 x) :
    f_pluvialref01_Add.f l = some (if l.sum < 18446744073709551616 then (l.sum, 0) else (0, 5)) := by
  unfold f_pluvialref01_Add.f
  rw [ref_add_l0 l hl l [] 0 0 rfl rfl (by omega) h, sb, Int.zero_add]
  by_cases h : l.sum < 18446744073709551616
  · rw [if_pos h, if_pos h]
  · rw [if_neg h, if_neg h]
theorem ref_check_l1 (h : THist) (x124 : Int) (l : List TBucket) (hs : RightS h.f1) (hl : l.length < 1000000) : ∀ (suf pre : List TBucket) (acc : List Int) (i : Int), l = pre ++ suf → i = (pre.length : Int) → acc.length + suf.length < 10000000 → (∀ b ∈ suf, I64 b.f0 ∧ U64 b.f1) →
    ∃ r, f_pluvialref05_Check.l1 h x124 l acc i = some r ∧ (∀ c, r = .inl c → c ≠ 0) ∧ ((∃ a, r = .inr a) ↔ (∀ b ∈ suf, BOk h.f1 h.f2 b) ∧ Up ((pre.getLast?).map (·.f0)) suf) ∧ ∀ a, r = .inr a → a = acc ++ suf.map (·.f1) := by
  intro suf
  induction suf with
  | nil =>
    intro pre acc i h1 hi _ _
    subst h1
    rw [f_pluvialref05_Check.l1, if_neg (by simp [hi])]
    exact ⟨_, rfl, by simp, by simp [Up], by simp⟩
  | cons x suf ih =>
    intro pre acc i h1 hi ha hU
    have hx := hU x (by simp)
    have hlen : (l.length : Int) = pre.length + (suf.length + 1) := by rw [h1]; simp
    simp only [List.length_cons] at ha
    rw [f_pluvialref05_Check.l1, if_pos (by simp; omega), at_mid h1 hi, sb, ref_in hs hx.1, sb]
    by_cases c1 : InS h.f1 x.f0
    case neg =>
      rw [if_pos (by simp [c1])]
      exact ⟨_, rfl, by simp, by simp; intro h; exact absurd h.ins c1, by simp⟩
    rw [if_neg (by simp [c1])]
    have hsm := inS_small c1
    have hprev : ∃ c : Bool, ((if (decide (i > (0 : Int))) = true then ((at? l (IntKind.i64.wrap (i - (1 : Int)))) >>= fun b168 => some (decide (x.f0 ≤ b168.f0))) else (some false)) : Option (Bool)) = some c ∧ (c = false ↔ ∀ q, (pre.getLast?).map (·.f0) = some q → q < x.f0) := by
      by_cases h0 : 0 < i
      · obtain ⟨q, e1, y, e2, e3⟩ := last_pre h1 hi h0 (by omega)
        rw [if_pos (by simpa using h0), e2, sb]
        exact ⟨_, rfl, by rw [e1, e3]; simp⟩
      · rw [if_neg (by simpa using h0)]
        exact ⟨_, rfl, by rw [no_pre hi h0]; simp⟩
    obtain ⟨c, ec, hc⟩ := hprev
    rw [ec, sb, wrap64 (n := x.f0 - 1) (by omega) (by omega), ref_units hs (by omega)]
    cases c with
    | true =>
      rw [if_pos rfl]
      refine ⟨_, rfl, by simp, by simp; intro _ _ h2; exact absurd (hc.2 h2.1) (by simp), by simp⟩
    | false =>
      rw [if_neg (by simp)]
      by_cases c2 : x.f1 = 0
      · rw [if_pos (by simpa using c2)]
        exact ⟨_, rfl, by simp, by simp; intro h; have := h.pos; omega, by simp⟩
      rw [if_neg (by simpa using c2), sb]
      by_cases c3 : (x.f0 - 1) * stp h.f1 < h.f2
      · rw [if_pos (by simpa using c3)]
        exact ⟨_, rfl, by simp, by simp; intro h; have := h.low; omega, by simp⟩
      rw [if_neg (by simpa using c3), chkB (by simp; omega), wrap64 (n := i + 1) (by omega) (by omega)]
      obtain ⟨r, e, e1, e2, e3⟩ := ih (pre ++ [x]) (acc ++ [x.f1]) (i + 1) (by simp [h1]) (by simp; omega) (by simp; omega) (fun b hb => hU b (by simp [hb]))
      refine ⟨r, e, e1, ?_, fun a ha => by rw [e3 a ha]; simp⟩
      rw [e2]
      simp only [List.getLast?_append, List.getLast?_singleton, Option.some_or, Option.map_some, Up, List.forall_mem_cons]
      have hb : BOk h.f1 h.f2 x := ⟨c1, by omega, by omega⟩
      constructor
      · rintro ⟨a, b⟩; exact ⟨⟨hb, a⟩, hc.1 rfl, b⟩
      · rintro ⟨⟨_, a⟩, _, b⟩; exact ⟨a, b⟩
theorem ref_check_side (h : THist) (x124 : Int) (l : List TBucket) (acc : List Int) (hs : RightS h.f1) (hl : l.length < 1000000000000000) (ha : acc.length < 1000000) (hU : ∀ b ∈ l, I64 b.f0 ∧ U64 b.f1) :
    ∃ r : Int ⊕ List Int, (if (decide ((l.length : Int) > (512 : Int))) = true then (some (.inl 9)) else (f_pluvialref05_Check.l1 h x124 l acc 0)) = some r ∧ (∀ c, r = .inl c → c ≠ 0) ∧ ((∃ a, r = .inr a) ↔ Side h.f1 h.f2 l) ∧ ∀ a, r = .inr a → a = acc ++ l.map (·.f1) := by
  by_cases h0 : l.length > 512
  · rw [if_pos (by simp; omega)]
    exact ⟨_, rfl, by simp, by simp; intro h; have := h.len; omega, by simp⟩
  · rw [if_neg (by simp; omega)]
    obtain ⟨r, e, e1, e2, e3⟩ := ref_check_l1 h x124 l hs (by omega) l [] acc 0 rfl rfl (by omega) hU
    refine ⟨r, e, e1, e2.trans ⟨fun ⟨h1, h2⟩ => ⟨by omega, h1, ((up_iff l _).1 h2).2⟩, fun h => ⟨h.ok, (up_iff l _).2 ⟨by simp, h.up⟩⟩⟩, e3⟩
theorem ref_check_iff (h : THist) (hf : Fits h) (hp : h.f6.length < 1000000000000000) (hn : h.f7.length < 1000000000000000) : ∃ r, f_pluvialref05_Check.f h = some r ∧ (r = 0 ↔ Valid h) := by
  unfold f_pluvialref05_Check.f
  have hk : ((if (h.f0 != (0 : Int)) = true then (some (h.f0 != (1 : Int))) else (some false)) : Option (Bool)) = some (!decide (h.f0 = 0 ∨ h.f0 = 1)) := by
    by_cases h1 : h.f0 = 0
    · simp [h1]
    · by_cases h2 : h.f0 = 1 <;> simp [h1, h2]
  rw [hk, sb]
  by_cases c1 : h.f0 = 0 ∨ h.f0 = 1
  case neg => rw [if_pos (by simpa using c1)]; exact ⟨_, rfl, by simp; intro h; exact c1 h.kind⟩
  rw [if_neg (by rw [decide_eq_true c1]; decide), ref_right, sb]
  by_cases c2 : RightS h.f1
  case neg => rw [if_pos (by simp [c2])]; exact ⟨_, rfl, by simp; intro h; exact c2 h.schema⟩
  rw [if_neg (by simp [c2])]
  have hz : ((if (h.f2 != (-524288)) = true then (if (decide (h.f2 ≤ (-262144))) = true then (some true) else (some (decide (h.f2 > (262144 : Int))))) else (some false)) : Option (Bool)) = some (!decide (h.f2 = -524288 ∨ (-262144 < h.f2 ∧ h.f2 ≤ 262144))) := by
    by_cases h1 : h.f2 = -524288
    · simp [h1]
    · by_cases h2 : h.f2 ≤ -262144
      · simp [h1, h2]
      · have h4 : -262144 < h.f2 := by omega
        by_cases h3 : h.f2 ≤ 262144
        · simp [h1, h2, h3, h4]
        · simp [h1, h2, h3, h4]; omega
  rw [hz, sb]
  by_cases c3 : h.f2 = -524288 ∨ (-262144 < h.f2 ∧ h.f2 ≤ 262144)
  case neg => rw [if_pos (by simp [c3])]; exact ⟨_, rfl, by simp; intro h; exact c3 h.zero⟩
  rw [if_neg (by simp [c3])]
  obtain ⟨r1, e1, n1, i1, j1⟩ := ref_check_side h 0 h.f6 [h.f3] c2 hp (by simp) hf.pos
  have w1 : IntKind.i64.wrap (0 + 1) = 1 := by decide
  have w2 : IntKind.i64.wrap (1 + 1) = 2 := by decide
  have step : ∀ (k : Int) (l : List TBucket) (acc : List Int), (k = 0 ∧ l = h.f6 ∨ k = 1 ∧ l = h.f7) → f_pluvialref05_Check.l0 h acc k = ((if (decide ((l.length : Int) > (512 : Int))) = true then (some (.inl 9)) else (f_pluvialref05_Check.l1 h k l acc 0)) >>= fun (oo : Int ⊕ List Int) => match oo with | .inl rr => (some (.inl rr)) | .inr x181 => (f_pluvialref05_Check.l0 h x181 (k + 1))) := by
    intro k l acc hk
    rcases hk with ⟨rfl, rfl⟩ | ⟨rfl, rfl⟩
    · rw [f_pluvialref05_Check.l0, if_pos (by decide), if_neg (by decide), sb, w1, bind_iteB]; rfl
    · rw [f_pluvialref05_Check.l0, if_pos (by decide), if_pos (by decide), sb, w2, bind_iteB]; rfl
  rw [step 0 h.f6 _ (.inl ⟨rfl, rfl⟩), e1, sb]
  cases r1 with
  | inl c => exact ⟨c, rfl, fun h => absurd h (n1 c rfl), fun h => by obtain ⟨a, e⟩ := i1.2 h.pos; cases e⟩
  | inr a1 =>
    have hv1 := i1.1 ⟨_, rfl⟩
    have ha1 := j1 a1 rfl
    have hl1 := hv1.len
    obtain ⟨r2, e2, n2, i2, j2⟩ := ref_check_side h 1 h.f7 a1 c2 hn (by rw [ha1]; simp; omega) hf.neg
    simp only []
    rw [show (0 : Int) + 1 = 1 from rfl, step 1 h.f7 _ (.inr ⟨rfl, rfl⟩), e2, sb]
    cases r2 with
    | inl c => exact ⟨c, rfl, fun h => absurd h (n2 c rfl), fun h => by obtain ⟨a, e⟩ := i2.2 h.neg; cases e⟩
    | inr a2 =>
      have hv2 := i2.1 ⟨_, rfl⟩
      have ha2 := j2 a2 rfl
      have hl2 := hv2.len
      simp only []
      rw [show (1 : Int) + 1 = 2 from rfl, f_pluvialref05_Check.l0, if_neg (by decide), sb]
      simp only []
      have hall : a2 = [h.f3] ++ h.f6.map (·.f1) ++ h.f7.map (·.f1) := by rw [ha2, ha1]
      have hsum : a2.sum = cnt h.f6 + cnt h.f7 + h.f3 := by rw [hall]; simp [cnt]; omega
      rw [ref_add a2 (by rw [hall]; simp; omega) (by
        intro x hx
        rw [hall] at hx
        simp only [List.mem_append, List.mem_singleton, List.mem_map] at hx
        rcases hx with (rfl | ⟨b, hb, rfl⟩) | ⟨b, hb, rfl⟩
        · exact hf.zero
        · exact (hf.pos b hb).2
        · exact (hf.neg b hb).2), sb, hsum]
      by_cases c4 : cnt h.f6 + cnt h.f7 + h.f3 < 18446744073709551616
      case neg => rw [if_neg c4, if_pos (by simp)]; exact ⟨_, rfl, by simp; intro h; exact c4 h.total⟩
      rw [if_pos c4, if_neg (by simp)]
      by_cases c5 : cnt h.f6 + cnt h.f7 + h.f3 = h.f4
      · rw [if_neg (by simpa using c5)]
        exact ⟨0, rfl, fun _ => ⟨c1, c2, c3, hv1, hv2, c4, c5.symm⟩, fun _ => rfl⟩
      · rw [if_pos (by simpa using c5)]
        exact ⟨_, rfl, by simp; intro h; exact c5 h.count.symm⟩
end Go.Proofs.Ytjfhobijgkccdaa.PvGA3
