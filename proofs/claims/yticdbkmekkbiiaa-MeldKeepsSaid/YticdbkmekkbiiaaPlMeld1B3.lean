import Derived.Test.YticdbkmekkbiiaaPlCheckB3
set_option linter.unusedVariables false
set_option linter.unusedSimpArgs false
/-! Coarser schemas and wider middles. -/
namespace Go.Proofs.Yticdbkmekkbiiaa.PvGB3
open Go Go.Pv Go.Pv.GS
open Classical

/-! ### Sums by index -/
def wsum (l : List TBucket) (w : Int → Int) : Int := (l.map (fun b => b.f1 * w b.f0)).sum
theorem wsum_nil (w : Int → Int) : wsum [] w = 0 := rfl
theorem wsum_cons (b : TBucket) (l : List TBucket) (w : Int → Int) : wsum (b :: l) w = b.f1 * w b.f0 + wsum l w := by simp [wsum]
theorem wsum_append (a b : List TBucket) (w : Int → Int) : wsum (a ++ b) w = wsum a w + wsum b w := by simp [wsum]
theorem wsum_split (l : List TBucket) (i : Int) (w : Int → Int) : wsum l w = tot l i * w i + wsum (l.filter (fun b => decide (b.f0 ≠ i))) w := by
  induction l with
  | nil => simp [wsum, tot]
  | cons b l ih =>
    rw [wsum_cons, ih, tot]
    by_cases h : b.f0 = i
    · subst h; simp [Int.add_mul]; omega
    · rw [if_neg h, List.filter_cons_of_pos (by simpa using h), wsum_cons, Int.zero_add]; omega
theorem tot_filter (l : List TBucket) (p : Int → Bool) (i : Int) : tot (l.filter (fun b => p b.f0)) i = if p i = true then tot l i else 0 := by
  induction l with
  | nil => simp [tot]
  | cons b l ih =>
    by_cases h : p b.f0 = true
    · rw [List.filter_cons_of_pos (by simpa using h), tot, ih, tot]
      by_cases e : b.f0 = i
      · subst e; simp [h]
      · simp [e]
    · rw [List.filter_cons_of_neg (by simpa using h), ih, tot]
      by_cases e : b.f0 = i
      · subst e; simp [h]
      · simp [e]
theorem wsum_zero : ∀ (n : Nat) (l : List TBucket), l.length ≤ n → (∀ i, tot l i = 0) → ∀ w, wsum l w = 0 := by
  intro n
  induction n with
  | zero =>
    intro l hn _ w
    obtain rfl : l = [] := List.length_eq_zero_iff.1 (by omega)
    rfl
  | succ n ih =>
    intro l hn h w
    cases l with
    | nil => rfl
    | cons b l =>
      rw [wsum_split _ b.f0, h, Int.zero_mul, Int.zero_add]
      refine ih _ ?_ (fun i => ?_) w
      · rw [List.filter_cons_of_neg (by simp)]
        have := List.length_filter_le (fun b' : TBucket => decide (b'.f0 ≠ b.f0)) l
        simp only [List.length_cons] at hn; omega
      · have := tot_filter (b :: l) (fun j => decide (j ≠ b.f0)) i
        rw [this, h]; simp
def negl (l : List TBucket) : List TBucket := l.map (fun b => ⟨b.f0, -b.f1⟩)
theorem tot_negl (l : List TBucket) (i : Int) : tot (negl l) i = - tot l i := by
  induction l with
  | nil => rfl
  | cons b l ih => simp only [negl, List.map_cons, tot] at *; rw [ih]; split <;> omega
theorem wsum_negl (l : List TBucket) (w : Int → Int) : wsum (negl l) w = - wsum l w := by
  induction l with
  | nil => rfl
  | cons b l ih => rw [negl, List.map_cons, wsum_cons, wsum_cons]; rw [negl] at ih; rw [ih]; simp [Int.neg_mul]; omega
/-- Sums hang on how much there is of each index alone. -/
theorem wsum_congr {l l' : List TBucket} (h : ∀ i, tot l i = tot l' i) (w : Int → Int) : wsum l w = wsum l' w := by
  have := wsum_zero _ (l ++ negl l') (Nat.le_refl _) (fun i => by rw [tot_append, tot_negl, h]; omega) w
  rw [wsum_append, wsum_negl] at this; omega
theorem cnt_wsum (l : List TBucket) : cnt l = wsum l (fun _ => 1) := by simp [cnt, wsum]
theorem cnt_congr {l l' : List TBucket} (h : ∀ i, tot l i = tot l' i) : cnt l = cnt l' := by rw [cnt_wsum, cnt_wsum, wsum_congr h]
theorem tot_le_cnt {l : List TBucket} (h : Nn l) (i : Int) : tot l i ≤ cnt l := by
  induction l with
  | nil => simp [tot, cnt]
  | cons b l ih =>
    have := h b (by simp)
    have h2 : Nn l := fun y hy => h y (by simp [hy])
    have := ih h2
    have := cnt_nonneg h2
    rw [tot, cnt_cons]; split <;> omega
theorem cnt_filter (l : List TBucket) (p : TBucket → Bool) : cnt (l.filter p) + cnt (l.filter (fun b => !p b)) = cnt l := by
  induction l with
  | nil => rfl
  | cons b l ih =>
    cases h : p b with
    | true => rw [List.filter_cons_of_pos h, List.filter_cons_of_neg (by simp [h]), cnt_cons, cnt_cons]; omega
    | false => rw [List.filter_cons_of_neg (by simp [h]), List.filter_cons_of_pos (by simp [h]), cnt_cons, cnt_cons]; omega

/-! ### Make -/
/-- Buckets that may be handed to Make. -/
structure Bs (s z : Int) (l : List TBucket) : Prop where
  len : l.length ≤ 5000
  ok : ∀ b ∈ l, BOk s z b
theorem Bs.nn {s z : Int} {l : List TBucket} (h : Bs s z l) : Nn l := fun b hb => Int.le_of_lt (h.ok b hb).pos
theorem le_cnt {l : List TBucket} (h : Nn l) {b : TBucket} (hb : b ∈ l) : b.f1 ≤ cnt l := Int.le_trans (tot_mem h hb) (tot_le_cnt h _)

theorem tidy_ok {s z : Int} {l : List TBucket} (h : Bs s z l) (ht : cnt l < 18446744073709551616) :
    ∃ o, f_hist_tidy.f l = some (o, 0) ∧ Canon o ∧ (∀ i, tot o i = tot l i) ∧ (∀ b ∈ o, BOk s z b) ∧ (∀ b ∈ o, U64 b.f1) ∧ o.length ≤ l.length ∧ cnt o = cnt l := by
  have hl := h.len
  rcases tidy_spec l (by omega) (fun b hb => ⟨h.nn b hb, by have := le_cnt h.nn hb; omega⟩) with ⟨o, e, h1, h2, h3, h4, h5⟩ | ⟨e, i, h1⟩
  · refine ⟨o, e, h1, h2, fun b hb => ?_, h3, h5, cnt_congr h2⟩
    obtain ⟨p, hp, e⟩ := h4 b hb
    have := h.ok p hp
    exact ⟨e ▸ this.ins, h1.pos b hb, e ▸ this.low⟩
  · have := tot_le_cnt h.nn i; omega

theorem inS_i64 {s i : Int} (h : InS s i) : I64 i := by have := inS_small h; constructor <;> omega

/-- A histogram of such buckets is made, if there aren't too many. -/
theorem make_valid (g : THist) (p n : List TBucket) (hk : g.f0 = 0 ∨ g.f0 = 1) (hs : RightS g.f1) (hz : g.f2 = -524288 ∨ (-262144 < g.f2 ∧ g.f2 ≤ 262144)) (h3 : 0 ≤ g.f3) (h5 : I64 g.f5)
    (hp : Bs g.f1 g.f2 p) (hn : Bs g.f1 g.f2 n) (ht : cnt p + cnt n + g.f3 < 18446744073709551616) (hl : ∀ o, Canon o → (((∀ i, tot o i = tot p i) ∧ o.length ≤ p.length) ∨ ((∀ i, tot o i = tot n i) ∧ o.length ≤ n.length)) → o.length ≤ 512) :
    ∃ r, f_hist_Make.f g p n = some (r, 0) ∧ Valid r ∧ Fits r ∧ r.f0 = g.f0 ∧ r.f1 = g.f1 ∧ r.f2 = g.f2 ∧ r.f3 = g.f3 ∧ r.f5 = g.f5 ∧ (∀ i, tot r.f6 i = tot p i) ∧ (∀ i, tot r.f7 i = tot n i) ∧ r.f4 = cnt p + cnt n + g.f3 := by
  have np := cnt_nonneg hp.nn
  have nn := cnt_nonneg hn.nn
  obtain ⟨o, e1, c1, t1, b1, u1, l1, q1⟩ := tidy_ok hp (by omega)
  obtain ⟨o2, e2, c2, t2, b2, u2, l2, q2⟩ := tidy_ok hn (by omega)
  have hlp := hp.len
  have hln := hn.len
  have htot := total3 o o2 g.f3 (by omega) (by omega) u1 u2 ⟨h3, by omega⟩
  rw [q1, q2, if_pos ht] at htot
  have hf : Fits (⟨g.f0, g.f1, g.f2, g.f3, cnt p + cnt n + g.f3, g.f5, o, o2⟩ : THist) :=
    ⟨by rcases hk with h | h <;> rw [h] <;> constructor <;> omega, by have := hs.1; have := hs.2; constructor <;> simp <;> omega, by rcases hz with h | h <;> constructor <;> simp <;> omega, ⟨h3, by simp; omega⟩, ⟨by simp; omega, ht⟩, h5,
      fun b hb => ⟨inS_i64 (b1 b hb).ins, u1 b hb⟩, fun b hb => ⟨inS_i64 (b2 b hb).ins, u2 b hb⟩⟩
  have hv : Valid (⟨g.f0, g.f1, g.f2, g.f3, cnt p + cnt n + g.f3, g.f5, o, o2⟩ : THist) :=
    ⟨hk, hs, hz, ⟨hl o c1 (.inl ⟨t1, l1⟩), b1, c1.up⟩, ⟨hl o2 c2 (.inr ⟨t2, l2⟩), b2, c2.up⟩, by simp only [q1, q2]; exact ht, by simp only [q1, q2]⟩
  refine ⟨_, ?_, hv, hf, rfl, rfl, rfl, rfl, rfl, t1, t2, rfl⟩
  unfold f_hist_Make.f
  rw [e1, e2, sb, sb, if_neg (by simp), htot, sb, if_neg (by simp), check_T _ hf hv, sb, if_neg (by simp)]

/-! ### Where a place lies -/
def Strad (s a : Int) (l : List TBucket) : Prop := ∃ b ∈ l, (b.f0 - 1) * stp s < a ∧ a < b.f0 * stp s
/-- The next bound at or above a place. -/
def cg (s a : Int) : Int := -((-a) / stp s) * stp s

theorem cg_eq {s a i : Int} (h1 : (i - 1) * stp s < a) (h2 : a ≤ i * stp s) : cg s a = i * stp s := by
  have hp := stp_pos s
  unfold cg
  generalize stp s = st at *
  have : -((-a) / st) = i := by
    have e1 := Int.ediv_mul_le (-a) (show st ≠ 0 by omega)
    have e2 := Int.lt_ediv_add_one_mul_self (-a) hp
    generalize (-a) / st = q at *
    rw [Int.add_mul] at e2
    rw [Int.sub_mul] at h1
    have a1 : -q * st < (i + 1) * st := by rw [Int.neg_mul, Int.add_mul]; omega
    have a2 : (i - 1) * st < -q * st := by rw [Int.neg_mul, Int.sub_mul]; omega
    have b1 := Int.lt_of_mul_lt_mul_right a1 (by omega)
    have b2 := Int.lt_of_mul_lt_mul_right a2 (by omega)
    omega
  rw [this]

theorem edge_l0 (h : THist) (l : List TBucket) (a : Int) (hs : RightS h.f1) (hl : l.length < 1000000000) (hi : ∀ b ∈ l, InS h.f1 b.f0) : ∀ (suf pre : List TBucket) (i : Int), l = pre ++ suf → i = (pre.length : Int) →
    f_meld_edge.l0 h l a i = some (if Strad h.f1 a suf then .inl (cg h.f1 a) else .inr ()) := by
  intro suf
  induction suf with
  | nil =>
    intro pre i h1 hi0
    subst h1
    rw [f_meld_edge.l0, if_neg (by simp [hi0]), if_neg (by simp [Strad])]
  | cons x suf ih =>
    intro pre i h1 hi0
    have hx := hi x (by rw [h1]; simp)
    have hlen : (l.length : Int) = pre.length + (suf.length + 1) := by rw [h1]; simp
    rw [f_meld_edge.l0, if_pos (by simp; omega), at_mid h1 hi0, sb, low_T hs hx, sb, units_in hs hx, sb, ifand, sb, sb]
    by_cases hc : (x.f0 - 1) * stp h.f1 < a ∧ a < x.f0 * stp h.f1
    · rw [if_pos (by simpa using hc), if_pos ⟨x, by simp, hc⟩, cg_eq hc.1 (by omega)]
    · rw [if_neg (by simpa using hc), wrap64 (by omega) (by omega), ih (pre ++ [x]) (i + 1) (by simp [h1]) (by simp; omega)]
      have : Strad h.f1 a (x :: suf) ↔ Strad h.f1 a suf := by
        constructor
        · rintro ⟨b, hb, h⟩
          rcases List.mem_cons.1 hb with rfl | hb
          · exact absurd h hc
          · exact ⟨b, hb, h⟩
        · rintro ⟨b, hb, h⟩; exact ⟨b, by simp [hb], h⟩
      by_cases hst : Strad h.f1 a suf
      · rw [if_pos hst, if_pos (this.2 hst)]
      · rw [if_neg hst, if_neg (fun q => hst (this.1 q))]
theorem edge_eq (h : THist) (l : List TBucket) (a : Int) (hs : RightS h.f1) (hl : l.length < 1000000000) (hi : ∀ b ∈ l, InS h.f1 b.f0) :
    f_meld_edge.f h l a = some (if Strad h.f1 a l then cg h.f1 a else a) := by
  unfold f_meld_edge.f
  rw [edge_l0 h l a hs hl hi l [] 0 rfl rfl, sb]
  by_cases hst : Strad h.f1 a l
  · rw [if_pos hst, if_pos hst]
  · rw [if_neg hst, if_neg hst]

abbrev above (s a : Int) (i : Int) : Bool := decide (a < i * stp s)
abbrev keepL (s a : Int) (l : List TBucket) : List TBucket := l.filter (fun b => above s a b.f0)
abbrev dropL (s a : Int) (l : List TBucket) : List TBucket := l.filter (fun b => !above s a b.f0)

theorem keep_l0 (l : List TBucket) (c0 s c2 c4 c5 : Int) (c6 c7 : List TBucket) (a : Int) (hs : RightS s) (hl : l.length < 1000000) (hi : ∀ b ∈ l, InS s b.f0) (hU : ∀ b ∈ l, 0 ≤ b.f1) : ∀ (suf pre : List TBucket) (z : Int) (o : List TBucket) (i : Int), l = pre ++ suf → i = (pre.length : Int) → 0 ≤ z → z + cnt suf < 18446744073709551616 → o.length ≤ pre.length →
    f_meld_swallow_1_8ce.l0 l c0 s c2 c4 c5 c6 c7 a z o i = some (o ++ keepL s a suf, z + cnt (dropL s a suf)) := by
  intro suf
  induction suf with
  | nil =>
    intro pre z o i h1 hi0 _ _ _
    subst h1
    rw [f_meld_swallow_1_8ce.l0, if_neg (by simp [hi0])]
    simp [cnt]
  | cons x suf ih =>
    intro pre z o i h1 hi0 h0 hz ho
    have hx := hi x (by rw [h1]; simp)
    have hx1 := hU x (by rw [h1]; simp)
    have hn : 0 ≤ cnt suf := cnt_nonneg (fun b hb => hU b (by rw [h1]; simp [hb]))
    have hlen : (l.length : Int) = pre.length + (suf.length + 1) := by rw [h1]; simp
    rw [cnt_cons] at hz
    rw [f_meld_swallow_1_8ce.l0, if_pos (by simp; omega), at_mid h1 hi0, sb, units_in hs hx, sb, wrap64 (by omega) (by omega), num_add2 (a := z) (b := x.f1) ⟨h0, by omega⟩ ⟨hx1, by omega⟩]
    by_cases hc : a < x.f0 * stp s
    · rw [if_pos (by simpa using hc), chkB (by simp; omega), sb]
      simp only []
      rw [ih (pre ++ [x]) z (o ++ [x]) (i + 1) (by simp [h1]) (by simp; omega) h0 (by omega) (by simp; omega)]
      simp [hc]
    · rw [if_neg (by simpa using hc), if_pos (by omega), sb, sb]
      simp only []
      rw [ih (pre ++ [x]) (z + x.f1) o (i + 1) (by simp [h1]) (by simp; omega) (by omega) (by omega) (by simp; omega)]
      rw [show keepL s a (x :: suf) = keepL s a suf from List.filter_cons_of_neg (by simpa using hc), show dropL s a (x :: suf) = x :: dropL s a suf from List.filter_cons_of_pos (by simpa using hc), cnt_cons, Int.add_assoc]
theorem keep_eq (l : List TBucket) (c0 s c2 z c4 c5 : Int) (c6 c7 : List TBucket) (a : Int) (hs : RightS s) (hl : l.length < 1000000) (hi : ∀ b ∈ l, InS s b.f0) (hU : ∀ b ∈ l, 0 ≤ b.f1) (h0 : 0 ≤ z) (hz : z + cnt l < 18446744073709551616) :
    f_meld_swallow_1_8ce.f l c0 s c2 z c4 c5 c6 c7 a = some (keepL s a l, z + cnt (dropL s a l)) := by
  unfold f_meld_swallow_1_8ce.f
  rw [keep_l0 l c0 s c2 c4 c5 c6 c7 a hs hl hi hU l [] z [] 0 rfl rfl h0 hz (Nat.le_refl _), sb]
  simp

/-- Where the middle ends, so that it cuts no bucket. -/
noncomputable def zAt (s a : Int) (p n : List TBucket) : Int := if Strad s a p ∨ Strad s a n then cg s a else a
theorem strad_lt {s a : Int} {l : List TBucket} (h : Strad s a l) : a < cg s a := by
  obtain ⟨b, hb, h1, h2⟩ := h
  rw [cg_eq h1 (by omega)]; exact h2
theorem zAt_max (s a : Int) (p n : List TBucket) : (if (if Strad s a n then cg s a else a) > (if Strad s a p then cg s a else a) then (if Strad s a n then cg s a else a) else (if Strad s a p then cg s a else a)) = zAt s a p n := by
  unfold zAt
  by_cases h1 : Strad s a p
  · have := strad_lt h1
    by_cases h2 : Strad s a n <;> simp [h1, h2]; omega
  · by_cases h2 : Strad s a n
    · have := strad_lt h2
      simp [h1, h2]; omega
    · simp [h1, h2]
theorem zAt_le (s a : Int) (p n : List TBucket) : a ≤ zAt s a p n := by
  unfold zAt
  split
  · rename_i h; rcases h with h | h <;> exact Int.le_of_lt (strad_lt h)
  · exact Int.le_refl _

/-- Buckets of a schema, wherever. -/
structure Cs (s : Int) (l : List TBucket) : Prop where
  len : l.length ≤ 5000
  ins : ∀ b ∈ l, InS s b.f0
  pos : ∀ b ∈ l, 0 < b.f1
theorem Cs.nn {s : Int} {l : List TBucket} (h : Cs s l) : Nn l := fun b hb => Int.le_of_lt (h.pos b hb)

theorem kept_low {s a : Int} {p n l : List TBucket} (hl : l = p ∨ l = n) {b : TBucket} (hb : b ∈ l) (h : zAt s a p n < b.f0 * stp s) : zAt s a p n ≤ (b.f0 - 1) * stp s := by
  have hp := stp_pos s
  unfold zAt at *
  by_cases hc : Strad s a p ∨ Strad s a n
  · rw [if_pos hc] at *
    unfold cg at *
    have h1 := Int.lt_of_mul_lt_mul_right h (Int.le_of_lt hp)
    exact Int.mul_le_mul_of_nonneg_right (by omega) (Int.le_of_lt hp)
  · rw [if_neg hc] at *
    by_cases h2 : (b.f0 - 1) * stp s < a
    · rcases hl with rfl | rfl
      · exact absurd (.inl ⟨b, hb, h2, h⟩) hc
      · exact absurd (.inr ⟨b, hb, h2, h⟩) hc
    · omega

theorem zAt_range {s a : Int} {p n : List TBucket} (hp : ∀ b ∈ p, InS s b.f0) (hn : ∀ b ∈ n, InS s b.f0) (ha : a = -524288 ∨ (-262144 < a ∧ a ≤ 262144)) : zAt s a p n = -524288 ∨ (-262144 < zAt s a p n ∧ zAt s a p n ≤ 262144) := by
  unfold zAt
  split
  · rename_i h
    rcases h with ⟨b, hb, h1, h2⟩ | ⟨b, hb, h1, h2⟩
    · rw [cg_eq h1 (by omega)]; exact .inr (hp b hb)
    · rw [cg_eq h1 (by omega)]; exact .inr (hn b hb)
  · exact ha

/-- What comes of a histogram whose middle grows. -/
structure Swal (h : THist) (p n : List TBucket) (a : Int) (r : THist) : Prop where
  valid : Valid r
  fits : Fits r
  kind : r.f0 = h.f0
  schema : r.f1 = h.f1
  zeroAt : r.f2 = zAt h.f1 a p n
  zero : r.f3 = h.f3 + cnt (dropL h.f1 (zAt h.f1 a p n) p) + cnt (dropL h.f1 (zAt h.f1 a p n) n)
  sum : r.f5 = h.f5
  tpos : ∀ i, tot r.f6 i = if above h.f1 (zAt h.f1 a p n) i = true then tot p i else 0
  tneg : ∀ i, tot r.f7 i = if above h.f1 (zAt h.f1 a p n) i = true then tot n i else 0
  count : r.f4 = cnt p + cnt n + h.f3

theorem swallow_eq (h : THist) (p n : List TBucket) (a : Int) (hk : h.f0 = 0 ∨ h.f0 = 1) (hs : RightS h.f1) (ha : a = -524288 ∨ (-262144 < a ∧ a ≤ 262144)) (h3 : 0 ≤ h.f3) (h5 : I64 h.f5) (hp : Cs h.f1 p) (hn : Cs h.f1 n) (hpl : p.length ≤ 512) (hnl : n.length ≤ 512)
    (ht : cnt p + cnt n + h.f3 < 18446744073709551616) : ∃ r, f_meld_swallow.f h p n a = some (r, 0) ∧ Swal h p n a r := by
  have c1 := cnt_nonneg hp.nn
  have c2 := cnt_nonneg hn.nn
  have d1 : cnt (keepL h.f1 (zAt h.f1 a p n) p) + cnt (dropL h.f1 (zAt h.f1 a p n) p) = cnt p := cnt_filter p _
  have d2 : cnt (keepL h.f1 (zAt h.f1 a p n) n) + cnt (dropL h.f1 (zAt h.f1 a p n) n) = cnt n := cnt_filter n _
  have e1 := cnt_nonneg (l := keepL h.f1 (zAt h.f1 a p n) p) (fun b hb => hp.nn b ((List.mem_filter.1 hb).1))
  have e2 := cnt_nonneg (l := keepL h.f1 (zAt h.f1 a p n) n) (fun b hb => hn.nn b ((List.mem_filter.1 hb).1))
  have e3 := cnt_nonneg (l := dropL h.f1 (zAt h.f1 a p n) p) (fun b hb => hp.nn b ((List.mem_filter.1 hb).1))
  have e4 := cnt_nonneg (l := dropL h.f1 (zAt h.f1 a p n) n) (fun b hb => hn.nn b ((List.mem_filter.1 hb).1))
  have hb : ∀ l, (l = p ∨ l = n) → Cs h.f1 l → Bs h.f1 (zAt h.f1 a p n) (keepL h.f1 (zAt h.f1 a p n) l) := fun l hl hc =>
    ⟨Nat.le_trans (List.length_filter_le _ _) hc.len, fun b hb => by
      obtain ⟨h1, h2⟩ := List.mem_filter.1 hb
      exact ⟨hc.ins b h1, hc.pos b h1, kept_low hl h1 (by simpa using h2)⟩⟩
  obtain ⟨r, g1, g2, g3, g4, g5, g6, g7, g8, g9, g10, g11⟩ := make_valid (⟨h.f0, h.f1, zAt h.f1 a p n, h.f3 + cnt (dropL h.f1 (zAt h.f1 a p n) p) + cnt (dropL h.f1 (zAt h.f1 a p n) n), h.f4, h.f5, h.f6, h.f7⟩ : THist)
    (keepL h.f1 (zAt h.f1 a p n) p) (keepL h.f1 (zAt h.f1 a p n) n) hk hs (zAt_range hp.ins hn.ins ha) (by simp; omega) h5 (hb p (.inl rfl) hp) (hb n (.inr rfl) hn) (by simp only; omega) (fun o ho hto => by
      rcases hto with hto | hto
      · exact Nat.le_trans hto.2 (Nat.le_trans (List.length_filter_le _ _) hpl)
      · exact Nat.le_trans hto.2 (Nat.le_trans (List.length_filter_le _ _) hnl))
  refine ⟨r, ?_, ⟨g2, g3, g4, g5, g6, g7, g8, fun i => ?_, fun i => ?_, ?_⟩⟩
  · have l1 := hp.len
    have l2 := hn.len
    unfold f_meld_swallow.f
    rw [edge_eq h p a hs (by omega) hp.ins, edge_eq h n a hs (by omega) hn.ins, sb, sb, zAt_max]
    rw [keep_eq p _ h.f1 _ h.f3 _ _ _ _ _ hs (by omega) hp.ins hp.nn h3 (by omega), sb, keep_eq n _ h.f1 _ _ _ _ _ _ _ hs (by omega) hn.ins hn.nn (by simp only; omega) (by simp only; omega), sb, g1]
    rfl
  · rw [g9]; exact tot_filter p _ i
  · rw [g10]; exact tot_filter n _ i
  · rw [g11]; simp only; omega

end Go.Proofs.Yticdbkmekkbiiaa.PvGB3
