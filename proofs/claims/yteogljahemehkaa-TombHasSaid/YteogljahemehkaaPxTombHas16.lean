import Derived.Test.YteogljahemehkaaPxTombHas15
set_option linter.unusedVariables false
set_option linter.unusedSimpArgs false
namespace Go.Proofs.Yteogljahemehkaa.PvGC1
open Go Go.Pv Go.Pv.GS
theorem compare_i64 (a b : Int) : f_cmp_Compare_int64.f a b = some (if a < b then -1 else if a > b then 1 else 0) := by
  unfold f_cmp_Compare_int64.f f_cmp_isNaN_int64.f
  by_cases h1 : a < b
  · simp [h1]
  · by_cases h2 : b < a
    · simp [h1, h2]
    · simp [h1, h2]
theorem or2 (a b : Int) : f_cmp_Or_int.f [a, b] = some (if a ≠ 0 then a else b) := by
  have w1 : IntKind.i64.wrap ((0 : Int) + 1) = 1 := by decide
  have w2 : IntKind.i64.wrap ((1 : Int) + 1) = 2 := by decide
  unfold f_cmp_Or_int.f
  rw [f_cmp_Or_int.l0, if_pos (by simp), show at? [a, b] 0 = some a from rfl, sb]
  by_cases ha : a = 0
  · subst ha
    rw [if_neg (by simp), w1, f_cmp_Or_int.l0, if_pos (by simp), show at? [0, b] 1 = some b from rfl, sb]
    by_cases hb : b = 0
    · subst hb
      rw [if_neg (by simp), w2, f_cmp_Or_int.l0, if_neg (by simp)]; rfl
    · rw [if_pos (by simpa using hb)]; simp [hb]
  · rw [if_pos (by simpa using ha)]; simp [ha]
theorem rCmp : Cmp f_tomb_Of_2.f rLt := fun a b => by
  refine ⟨_, by unfold f_tomb_Of_2.f; rw [compare_i64, sb, compare_i64, sb, or2, sb], ?_⟩
  simp only [rLt]
  by_cases h1 : a.f0 < b.f0
  · simp [h1]
  · by_cases h2 : b.f0 < a.f0
    · have h3 : ¬ a.f0 = b.f0 := by omega
      simp [h1, h2, h3]
    · have h3 : a.f0 = b.f0 := by omega
      by_cases h4 : a.f1 < b.f1
      · simp [h1, h2, h3, h4]
      · by_cases h5 : b.f1 < a.f1 <;> simp [h1, h2, h3, h4, h5]
theorem right_eq (r : Ttomb_Range) : f_tomb_Right.f r = some (decide (RightR r)) := by
  unfold f_tomb_Right.f
  by_cases h1 : 0 ≤ r.f0
  · by_cases h2 : r.f0 ≤ r.f1 <;> simp [h1, h2, RightR]
  · simp [h1, RightR]
theorem bad_eq (r : Ttomb_Range) : f_tomb_Of_1.f r = some (!decide (RightR r)) := by
  unfold f_tomb_Of_1.f; rw [right_eq, sb]
theorem clone_r (l : List Ttomb_Range) (h : l.length < 1000000000) : f_slices_Clone_tomb_Range.f l = some l := by
  unfold f_slices_Clone_tomb_Range.f; rw [chkB (by simp; omega)]
theorem del_inst : f_slices_DeleteFunc_tomb_Range_tomb_Of_1.f = deleteF.f f_tomb_Of_1.f ⟨0, 0⟩ := by kernel_rfl
structure OfI (pre out : List Ttomb_Range) : Prop where
  apart : Apart out
  has : ∀ t, HasL out t ↔ HasL pre t
  seen : ∀ o ∈ out, ∃ p ∈ pre, p.f0 = o.f0
  len : out.length ≤ pre.length
theorem of_l0 (l : List Ttomb_Range) (hl : l.length < 1000000000) (hR : ∀ r ∈ l, RightR r) (hs : l.Pairwise (fun a b => rLt b a = false)) : ∀ (suf pre out : List Ttomb_Range) (i : Int), l = pre ++ suf → i = (pre.length : Int) → OfI pre out →
    ∃ out', f_tomb_Of.l0 l out i = some out' ∧ OfI l out' := by
  intro suf
  induction suf with
  | nil =>
    intro pre out i h1 hi hI
    rw [List.append_nil] at h1
    subst h1
    rw [f_tomb_Of.l0, if_neg (by simp [hi])]
    exact ⟨out, rfl, hI⟩
  | cons b suf ih =>
    intro pre out i h1 hi hI
    have hb := hR b (by rw [h1]; simp)
    have hlen : l.length = pre.length + (suf.length + 1) := by rw [h1]; simp
    have holen : out.length ≤ pre.length := hI.len
    have hle : ∀ p ∈ pre, p.f0 ≤ b.f0 := fun p hp => by
      rw [h1] at hs
      have := (List.pairwise_append.1 hs).2.2 p hp b (by simp)
      simp [rLt] at this; omega
    have e1 : l = (pre ++ [b]) ++ suf := by simp [h1]
    have e2 : i + 1 = ((pre ++ [b]).length : Int) := by simp [hi]
    rw [f_tomb_Of.l0, if_pos (by rw [h1]; simp [hi]; omega), at_mid h1 hi, sb, wrap64 (n := i + 1) (by omega) (by omega)]
    have hroom : (out.length + [b].length) * 16 ≤ 140737488355328 := by simp; omega
    have happ : ∀ (hlt : ∀ o ∈ out, o.f1 + 1 < b.f0), OfI (pre ++ [b]) (out ++ [b]) := fun hlt =>
      ⟨apart_snoc hI.apart hb hlt, fun t => by rw [hasL_append, hasL_append, hI.has], fun o ho => by
        rcases List.mem_append.1 ho with ho | ho
        · obtain ⟨p, hp, e⟩ := hI.seen o ho; exact ⟨p, by simp [hp], e⟩
        · simp at ho; subst ho; exact ⟨o, by simp, rfl⟩, by simp; omega⟩
    rcases List.eq_nil_or_concat out with rfl | ⟨o', o, rfl⟩
    · rw [if_neg (by simp), sb, if_neg (by simp), chkB hroom, sb]
      exact ih (pre ++ [b]) _ (i + 1) e1 e2 (happ (by simp))
    simp only [List.concat_eq_append] at *
    have ho' : o'.length < 1000000000000 := by simp at holen; omega
    obtain ⟨ha', hox, hog⟩ := apart_concat hI.apart
    rw [if_pos (by simp), snoc_at _ _ ho', sb, sb, wrap64 (n := o.f1 + 1) (by omega) (by omega)]
    by_cases hc : b.f0 ≤ o.f1 + 1
    · rw [if_pos (by simpa using hc), sb, snoc_set _ _ _ ho', sb]
      obtain ⟨p, hp, hpo⟩ := hI.seen o (by simp)
      have hob : o.f0 ≤ b.f0 := hpo ▸ hle p hp
      refine ih (pre ++ [b]) _ (i + 1) e1 e2 ⟨apart_snoc ha' ?_ ?_, fun t => ?_, fun q hq => ?_, by simp at holen ⊢; omega⟩
      · show 0 ≤ o.f0 ∧ o.f0 ≤ _ ∧ _ ≤ _
        split <;> (dsimp only; omega)
      · intro r hr; exact hog r hr
      · have := hI.has t
        rw [hasL_append, hasL_cons] at this ⊢
        rw [hasL_append, hasL_cons, ← this]
        have n1 : ¬ HasL [] t := hasL_nil t
        by_cases q : HasL o' t
        · simp [q]
        · simp only [q, n1, or_false, false_or, RightR] at *
          split <;> omega
      · rcases List.mem_append.1 hq with hq | hq
        · obtain ⟨p, hp, e⟩ := hI.seen q (by simp [hq]); exact ⟨p, by simp [hp], e⟩
        · simp at hq; subst hq; exact ⟨p, by simp [hp], hpo⟩
    · rw [if_neg (by simpa using hc), chkB hroom, sb]
      exact ih (pre ++ [b]) _ (i + 1) e1 e2 (happ (fun r hr => by
        rcases List.mem_append.1 hr with hr | hr
        · have := hog r hr; omega
        · simp at hr; subst hr; omega))
theorem of_spec (l : List Ttomb_Range) (hl : l.length < 1000000000) : ∃ r, f_tomb_Of.f l = some ⟨r⟩ ∧ Apart r ∧ (∀ t, HasL r t ↔ HasL l t) ∧ r.length ≤ l.length := by
  unfold f_tomb_Of.f
  rw [clone_r l hl, sb, del_inst, deleteF_eq bad_eq _ _ hl, sb, tsort_inst]
  have hf : (l.filter fun x => !(!decide (RightR x))).length ≤ l.length := List.length_filter_le ..
  obtain ⟨s, e, hp, hs⟩ := sortF rCmp rLt_swo (l.filter fun x => !(!decide (RightR x))) (by omega)
  rw [e, sb]
  have hsl := hp.length_eq
  obtain ⟨out, e2, hI⟩ := of_l0 s (by omega) (fun r hr => by
    have := (List.mem_filter.1 (hp.mem_iff.1 hr)).2
    simpa using this) hs s [] [] 0 rfl rfl ⟨Apart.nil, fun t => Iff.rfl, by simp, by simp⟩
  rw [e2, sb]
  exact ⟨out, rfl, hI.apart, fun t => by rw [hI.has, hasL_perm hp, hasL_filter _ _ _ (fun r hr => by simp [hr])], by have := hI.len; omega⟩
theorem ranges_eq (s : Ttomb_Set) (h : s.f0.length < 1000000000) : f_tomb_Set_Ranges.f s = some s.f0 := by
  unfold f_tomb_Set_Ranges.f; rw [clone_r _ h, sb]
theorem concat_eq (a b : List Ttomb_Range) (ha : a.length < 100000000) (hb : b.length < 100000000) : f_slices_Concat_tomb_Range.f [a, b] = some (a ++ b) := by
  have w1 : IntKind.i64.wrap ((0 : Int) + 1) = 1 := by decide
  have w2 : IntKind.i64.wrap ((1 : Int) + 1) = 2 := by decide
  unfold f_slices_Concat_tomb_Range.f
  have l0 : f_slices_Concat_tomb_Range.l0 [a, b] 0 0 = some ((a.length + b.length : Nat) : Int) := by
    rw [f_slices_Concat_tomb_Range.l0, if_pos (by simp), show at? [a, b] 0 = some a from rfl, sb, wrap64 (n := (0 : Int) + a.length) (by omega) (by omega), if_neg (by simp only [decide_eq_true_eq]; omega), w1,
      f_slices_Concat_tomb_Range.l0, if_pos (by simp), show at? [a, b] 1 = some b from rfl, sb, wrap64 (n := (0 : Int) + a.length + b.length) (by omega) (by omega), if_neg (by simp only [decide_eq_true_eq]; omega), w2,
      f_slices_Concat_tomb_Range.l0, if_neg (by simp)]
    simp
  have g : f_slices_Grow_tomb_Range_906.f ((a.length + b.length : Nat) : Int) = some [] := by
    unfold f_slices_Grow_tomb_Range_906.f
    rw [if_neg (by simp; omega), wrap64 (by omega) (by omega)]
    by_cases h0 : 0 < a.length + b.length
    · rw [if_pos (by simp; omega), chkB ⟨rfl, rfl⟩, chkB (by omega), chkB (by simp; omega), sb]
      simp
    · rw [if_neg (by simp; omega), sb]
  rw [l0, sb, g, sb, f_slices_Concat_tomb_Range.l1, if_pos (by simp), show at? [a, b] 0 = some a from rfl, sb, chkB (by simp; omega), w1,
    f_slices_Concat_tomb_Range.l1, if_pos (by simp), show at? [a, b] 1 = some b from rfl, sb, chkB (by simp; omega), w2,
    f_slices_Concat_tomb_Range.l1, if_neg (by simp), sb]
  rfl
theorem and_spec (a b : List Ttomb_Range) (ha : a.length < 100000000) (hb : b.length < 100000000) : ∃ r, f_tomb_Set_And.f ⟨a⟩ ⟨b⟩ = some ⟨r⟩ ∧ Apart r ∧ (∀ t, HasL r t ↔ HasL a t ∨ HasL b t) ∧ r.length ≤ a.length + b.length := by
  unfold f_tomb_Set_And.f
  rw [concat_eq a b ha hb, sb]
  obtain ⟨r, e, h1, h2, h3⟩ := of_spec (a ++ b) (by simp; omega)
  rw [e, sb]
  exact ⟨r, rfl, h1, fun t => by rw [h2, hasL_append], by simpa using h3⟩
theorem has_eq (l : List Ttomb_Range) (hl : l.length < 1000000000) (h : Apart l) (t : Int) : ∃ b, f_tomb_Set_Has.f ⟨l⟩ t = some b ∧ (b = true ↔ HasL l t) := by
  unfold f_tomb_Set_Has.f
  have hi : f_slices_BinarySearchFunc_tomb_Range_tomb_Set_Has_1.f = binF.f f_tomb_Set_Has_1.f := by kernel_rfl
  have hc : ∀ x, f_tomb_Set_Has_1.f x t = some (if x.f0 < t then -1 else if x.f0 > t then 1 else 0) := fun x => by
    unfold f_tomb_Set_Has_1.f; rw [compare_i64, sb]
  have hlt : ∀ i j (x y : Ttomb_Range), i < j → l[i]? = some x → l[j]? = some y → x.f1 + 1 < y.f0 := fun i j x y hij hx hy => by
    obtain ⟨hi', ex⟩ := List.getElem?_eq_some_iff.1 hx
    obtain ⟨hj', ey⟩ := List.getElem?_eq_some_iff.1 hy
    have := List.pairwise_iff_getElem.1 h.gap i j hi' hj' hij
    rw [ex, ey] at this; exact this
  have hR : ∀ i (x : Ttomb_Range), l[i]? = some x → RightR x := fun i x hx => h.right x (List.mem_of_getElem? hx)
  obtain ⟨k, fb, hk, hfb, e⟩ := binF_eq hc l hl (fun i j x y hij hx hy hneg => by
    have hyt : y.f0 < t := by
      by_cases q : y.f0 < t
      · exact q
      · rw [if_neg q] at hneg; split at hneg <;> omega
    have : x.f0 < t := by
      by_cases q : i = j
      · subst q; rw [hx] at hy; simp at hy; subst hy; exact hyt
      · have := hlt i j x y (by omega) hx hy
        have := hR i x hx
        omega
    rw [if_pos this]; omega)
  have hlo : ∀ m x, m < k → l[m]? = some x → x.f0 < t := fun m x hm hx => by
    have := hk.lo m x hm hx
    by_cases q : x.f0 < t
    · exact q
    · rw [if_neg q] at this; split at this <;> omega
  have hhi : ∀ m x, k ≤ m → l[m]? = some x → t ≤ x.f0 := fun m x hm hx => by
    have := hk.hi m x hm hx
    by_cases q : x.f0 < t
    · rw [if_pos q] at this; omega
    · omega
  rw [hi, e, sb]
  have main : ∀ (m : Nat) (x : Ttomb_Range), l[m]? = some x → RightR x ∧ x.f0 ≤ t ∧ t ≤ x.f1 → (∃ y, l[k]? = some y ∧ y.f0 = t) ∨ (0 < k ∧ ∃ y, l[k - 1]? = some y ∧ t ≤ y.f1) := fun m x hx q => by
    have hml := (List.getElem?_eq_some_iff.1 hx).1
    by_cases hm : m < k
    · right
      refine ⟨by omega, ?_⟩
      by_cases hm1 : m = k - 1
      · exact ⟨x, hm1 ▸ hx, q.2.2⟩
      · have hk1 : k - 1 < l.length := by have := hk.le; omega
        have a := hlo (k - 1) _ (by omega) (List.getElem?_eq_getElem hk1)
        have b := hlt m (k - 1) x _ (by omega) hx (List.getElem?_eq_getElem hk1)
        omega
    · left
      have hkl : k < l.length := by omega
      refine ⟨l[k], List.getElem?_eq_getElem hkl, ?_⟩
      have a := hhi k _ (by omega) (List.getElem?_eq_getElem hkl)
      by_cases hmk : m = k
      · subst hmk; rw [List.getElem?_eq_getElem hkl] at hx; simp at hx; rw [hx] at a ⊢; omega
      · have b := hlt k m _ x (by omega) (List.getElem?_eq_getElem hkl) hx
        have c := hR k _ (List.getElem?_eq_getElem hkl)
        omega
  have main' : HasL l t → (∃ y, l[k]? = some y ∧ y.f0 = t) ∨ (0 < k ∧ ∃ y, l[k - 1]? = some y ∧ t ≤ y.f1) := fun ⟨r, hr, q⟩ => by
    obtain ⟨m, hm⟩ := List.getElem?_of_mem hr
    exact main m r hm q
  have hz : ∀ y : Ttomb_Range, (if y.f0 < t then (-1 : Int) else if y.f0 > t then 1 else 0) = 0 ↔ y.f0 = t := fun y => by
    by_cases q : y.f0 < t
    · rw [if_pos q]; omega
    · by_cases q2 : y.f0 > t
      · rw [if_neg q, if_pos q2]; omega
      · rw [if_neg q, if_neg q2]; omega
  simp only [hz] at hfb
  dsimp only
  by_cases hf : ∃ y, l[k]? = some y ∧ y.f0 = t
  · rw [if_pos (hfb.2 hf), sb]
    obtain ⟨y, hy, hyt⟩ := hf
    refine ⟨true, rfl, by simp; exact ⟨y, List.mem_of_getElem? hy, hR k y hy, by omega, by have := (hR k y hy).2.1; omega⟩⟩
  · rw [if_neg (fun q => hf (hfb.1 q))]
    by_cases hk0 : 0 < k
    · have hk1 : k - 1 < l.length := by have := hk.le; omega
      have hy := List.getElem?_eq_getElem hk1
      rw [if_pos (by simpa using hk0), wrap64 (by have := hk.le; omega) (by have := hk.le; omega), at_nat (k := k - 1) (by omega) hy, sb, sb]
      refine ⟨_, rfl, ?_⟩
      simp only [decide_eq_true_eq]
      constructor
      · intro q
        exact ⟨_, List.mem_of_getElem? hy, hR _ _ hy, by have := hlo (k - 1) _ (by omega) hy; omega, q⟩
      · intro q
        rcases main' q with q | ⟨_, y, hy', q⟩
        · exact absurd q hf
        · rw [hy] at hy'; simp at hy'; rw [hy']; exact q
    · rw [if_neg (by simpa using hk0), sb]
      refine ⟨false, rfl, by simp; intro q; rcases main' q with q | q
                             · exact hf q
                             · omega⟩
end Go.Proofs.Yteogljahemehkaa.PvGC1
set_option linter.unusedVariables false
set_option linter.unusedSimpArgs false
namespace Go.Proofs.Yteogljahemehkaa.PvGC1
open Go Go.Pv Go.Pv.GS
theorem awake14 : f_pluviallaw14_awake.f = some true := by
  unfold f_pluviallaw14_awake.f
  obtain ⟨r, e, h1, h2, h3⟩ := of_spec [(⟨4, 5⟩ : Ttomb_Range), (⟨1, 3⟩ : Ttomb_Range), (⟨9, 9⟩ : Ttomb_Range)] (by simp)
  have : r = [(⟨1, 5⟩ : Ttomb_Range), (⟨9, 9⟩ : Ttomb_Range)] := by
    refine apart_unique h1 ⟨by simp [RightR], by simp⟩ (fun t => ?_)
    rw [h2]
    simp only [hasL_cons, RightR]
    have n1 : ¬ HasL [] t := hasL_nil t
    simp only [n1, or_false]
    omega
  subst this
  rw [e, sb, ranges_eq _ (by simp), sb]
  rfl
theorem hasL_cut (x c : Ttomb_Range) (hx : RightR x) (hc : RightR c) (h : ¬ (x.f1 < c.f0 ∨ x.f0 > c.f1)) (t : Int) :
    HasL [(⟨x.f0, c.f0 - 1⟩ : Ttomb_Range), (⟨c.f1 + 1, x.f1⟩ : Ttomb_Range)] t ↔ (x.f0 ≤ t ∧ t ≤ x.f1) ∧ ¬ (c.f0 ≤ t ∧ t ≤ c.f1) := by
  rw [hasL_cons, hasL_cons]
  have n1 : ¬ HasL [] t := hasL_nil t
  simp only [n1, or_false, RightR] at *
  omega
theorem without_l0 (l : List Ttomb_Range) (c : Ttomb_Range) (hl : l.length < 100000000) (hR : ∀ r ∈ l, RightR r) : ∀ (suf pre out : List Ttomb_Range) (i : Int), l = pre ++ suf → i = (pre.length : Int) → out.length ≤ 2 * pre.length →
    ∃ out', f_tomb_Set_Without.l0 ⟨l⟩ c out i = some out' ∧ out'.length ≤ 2 * l.length ∧ (∀ t, HasL out' t ↔ HasL out t ∨ (HasL suf t ∧ ¬ (RightR c ∧ c.f0 ≤ t ∧ t ≤ c.f1))) := by
  intro suf
  induction suf with
  | nil =>
    intro pre out i h1 hi ho
    rw [List.append_nil] at h1
    subst h1
    rw [f_tomb_Set_Without.l0, if_neg (by simp [hi])]
    exact ⟨out, rfl, ho, fun t => by simp [hasL_nil]⟩
  | cons b suf ih =>
    intro pre out i h1 hi ho
    have hb := hR b (by rw [h1]; simp)
    have hlen : l.length = pre.length + (suf.length + 1) := by rw [h1]; simp
    have e1 : l = (pre ++ [b]) ++ suf := by simp [h1]
    have e2 : i + 1 = ((pre ++ [b]).length : Int) := by simp [hi]
    have hbad : (((f_tomb_Right.f c) >>= fun t2607 => if (!t2607) = true then (some true) else (if (decide (b.f1 < c.f0)) = true then (some true) else (some (decide (b.f0 > c.f1))))) : Option Bool) = some (decide (¬ RightR c ∨ b.f1 < c.f0 ∨ b.f0 > c.f1)) := by
      rw [right_eq, sb]
      by_cases h1 : RightR c
      · by_cases h2 : b.f1 < c.f0 <;> simp [h1, h2]
      · simp [h1]
    rw [f_tomb_Set_Without.l0, if_pos (by rw [h1]; simp [hi]; omega), at_mid h1 hi, sb, wrap64 (n := i + 1) (by omega) (by omega), hbad, sb]
    by_cases hc : ¬ RightR c ∨ b.f1 < c.f0 ∨ b.f0 > c.f1
    · rw [if_pos (decide_eq_true hc), chkB (by simp; omega), sb]
      obtain ⟨out', e, h2, h3⟩ := ih (pre ++ [b]) (out ++ [b]) (i + 1) e1 e2 (by simp; omega)
      refine ⟨out', e, h2, fun t => ?_⟩
      rw [h3, hasL_append, hasL_cons, hasL_cons]
      have n1 : ¬ HasL [] t := hasL_nil t
      simp only [n1, or_false]
      have : (RightR b ∧ b.f0 ≤ t ∧ t ≤ b.f1) → ¬ (RightR c ∧ c.f0 ≤ t ∧ t ≤ c.f1) := fun q p => by
        rcases hc with hc | hc
        · exact hc p.1
        · omega
      constructor
      · rintro ((q | q) | q)
        · exact .inl q
        · exact .inr ⟨.inl q, this q⟩
        · exact .inr ⟨.inr q.1, q.2⟩
      · rintro (q | ⟨q | q, p⟩)
        · exact .inl (.inl q)
        · exact .inl (.inr q)
        · exact .inr ⟨q, p⟩
    · rw [if_neg (by rw [decide_eq_true_eq]; exact hc), wrap64 (n := c.f0 - 1) (by omega) (by omega), wrap64 (n := c.f1 + 1) (by omega) (by omega), chkB (by simp; omega), sb]
      have hcr : RightR c := by
        by_cases q : RightR c
        · exact q
        · exact absurd (.inl q) hc
      obtain ⟨out', e, h2, h3⟩ := ih (pre ++ [b]) (out ++ [(⟨b.f0, c.f0 - 1⟩ : Ttomb_Range), (⟨c.f1 + 1, b.f1⟩ : Ttomb_Range)]) (i + 1) e1 e2 (by simp; omega)
      refine ⟨out', e, h2, fun t => ?_⟩
      rw [h3, hasL_append, hasL_cut b c hb hcr (fun q => hc (.inr q)), hasL_cons]
      constructor
      · rintro ((q | q) | q)
        · exact .inl q
        · exact .inr ⟨.inl ⟨hb, q.1⟩, fun p => q.2 p.2⟩
        · exact .inr ⟨.inr q.1, q.2⟩
      · rintro (q | ⟨q | q, p⟩)
        · exact .inl (.inl q)
        · exact .inl (.inr ⟨q.2, fun z => p ⟨hcr, z⟩⟩)
        · exact .inr ⟨q, p⟩
theorem without_spec (l : List Ttomb_Range) (c : Ttomb_Range) (hl : l.length < 100000000) (h : Apart l) : ∃ r, f_tomb_Set_Without.f ⟨l⟩ c = some ⟨r⟩ ∧ Apart r ∧ (∀ t, HasL r t ↔ HasL l t ∧ ¬ (RightR c ∧ c.f0 ≤ t ∧ t ≤ c.f1)) ∧ r.length ≤ 2 * l.length := by
  unfold f_tomb_Set_Without.f
  obtain ⟨o, e, h1, h2⟩ := without_l0 l c hl h.right l [] [] 0 rfl rfl (by simp)
  rw [e, sb]
  obtain ⟨r, e2, g1, g2, g3⟩ := of_spec o (by omega)
  rw [e2, sb]
  exact ⟨r, rfl, g1, fun t => by rw [g2, h2]; simp [hasL_nil], by omega⟩
theorem eqR (a b : Ttomb_Range) : ((a.f0 == b.f0) && ((a.f1 == b.f1) && true)) = decide (a = b) := by
  obtain ⟨a0, a1⟩ := a
  obtain ⟨b0, b1⟩ := b
  by_cases h0 : a0 = b0 <;> by_cases h1 : a1 = b1 <;> simp [h0, h1]
theorem same14_l0 (a b : List Ttomb_Range) (hl : a.length = b.length) (ha : a.length < 1000000000) : ∀ (sa sb' pa pb : List Ttomb_Range) (i : Int), a = pa ++ sa → b = pb ++ sb' → pa.length = pb.length → i = (pa.length : Int) →
    f_pluviallaw14_same.l0 a b i = some (if sa = sb' then .inr () else .inl false) := by
  intro sa
  induction sa with
  | nil =>
    intro sb' pa pb i h1 h2 h3 hi
    have : sb' = [] := by
      rw [h1, h2] at hl; simp at hl
      exact List.length_eq_zero_iff.1 (by omega)
    subst this
    rw [f_pluviallaw14_same.l0, if_neg (by rw [h1]; simp [hi])]
    rfl
  | cons x sa ih =>
    intro sb' pa pb i h1 h2 h3 hi
    cases sb' with
    | nil => rw [h1, h2] at hl; simp at hl; omega
    | cons y sb' =>
      have hlen : a.length = pa.length + (sa.length + 1) := by rw [h1]; simp
      rw [f_pluviallaw14_same.l0, if_pos (by simp; omega), at_mid h1 hi, sb, at_mid h2 (by omega), sb, eqR, wrap64 (by omega) (by omega)]
      by_cases e : x = y
      · rw [if_neg (by simpa using e), ih sb' (pa ++ [x]) (pb ++ [y]) (i + 1) (by simp [h1]) (by simp [h2]) (by simp; omega) (by simp; omega)]
        simp [e]
      · rw [if_pos (by simpa using e)]
        simp [e]
theorem same14 (a b : List Ttomb_Range) (ha : a.length < 1000000000) (hb : b.length < 1000000000) : f_pluviallaw14_same.f ⟨a⟩ ⟨b⟩ = some (decide (a = b)) := by
  unfold f_pluviallaw14_same.f
  rw [ranges_eq _ (by simpa using ha), sb, ranges_eq _ (by simpa using hb), sb]
  by_cases h : a.length = b.length
  · rw [if_neg (by simp; omega), same14_l0 a b h ha a b [] [] 0 rfl rfl rfl rfl, sb]
    by_cases e : a = b <;> simp [e]
  · rw [if_pos (by simp; omega)]
    have : a ≠ b := fun e => h (by rw [e])
    simp [this]
theorem to_l0 (l : List Ttomb_Range) (hl : l.length < 1000000000) : ∀ (suf pre : List Ttomb_Range) (i : Int), l = pre ++ suf → i = (pre.length : Int) → f_pluviallaw14_To.l0 l pre i = some l := by
  intro suf
  induction suf with
  | nil => intro pre i h1 hi; rw [f_pluviallaw14_To.l0, if_neg (by rw [h1]; simp [hi]), h1, List.append_nil]
  | cons b suf ih =>
    intro pre i h1 hi
    have hlen : l.length = pre.length + (suf.length + 1) := by rw [h1]; simp
    rw [f_pluviallaw14_To.l0, if_pos (by simp; omega), at_mid h1 hi, sb, chkB (by simp; omega), wrap64 (by omega) (by omega)]
    exact ih (pre ++ [b]) (i + 1) (by simp [h1]) (by simp; omega)
theorem to_eq (l : List Ttomb_Range) (hl : l.length < 1000000000) : f_pluviallaw14_To.f l = some l := by
  unfold f_pluviallaw14_To.f; rw [to_l0 l hl l [] 0 rfl rfl, sb]
end Go.Proofs.Yteogljahemehkaa.PvGC1
set_option linter.unusedVariables false
set_option linter.unusedSimpArgs false
namespace Go.Proofs.Yteogljahemehkaa.PvGC1
open Go Go.Pv Go.Pv.GS
open Classical in
noncomputable def hasB (l : List Ttomb_Range) (t : Int) : Bool := decide (HasL l t)
theorem hasB_iff (l : List Ttomb_Range) (t : Int) : hasB l t = true ↔ HasL l t := by simp [hasB]
theorem hasB_eq (l : List Ttomb_Range) (hl : l.length < 1000000000) (h : Apart l) (t : Int) : f_tomb_Set_Has.f ⟨l⟩ t = some (hasB l t) := by
  obtain ⟨b, e, hb⟩ := has_eq l hl h t
  rw [e, show b = hasB l t from Bool.eq_iff_iff.2 (hb.trans (hasB_iff l t).symm)]
theorem hasB_nil (t : Int) : hasB [] t = false := by
  cases e : hasB [] t with
  | false => rfl
  | true => exact absurd ((hasB_iff _ _).1 e) (hasL_nil t)
noncomputable abbrev kept (x : List Ttomb_Range) (l : List TSample) : List TSample := l.filter (fun s => !hasB x s.f0)
theorem keep_inst (l : List TSample) (c : List Ttomb_Range) : f_slices_DeleteFunc_api_Sample_tomb_Set_Keep_1_28a.f l c = deleteF.f (fun x => f_tomb_Set_Keep_1_79b.f x c) (⟨0, (⟨0, 0, 0, 0, 0, 0, [], []⟩ : THist)⟩ : TSample) l := by kernel_rfl
theorem keep_eq (x : List Ttomb_Range) (hx : x.length < 1000000000) (h : Apart x) (l : List TSample) (hl : l.length < 1000000000) : f_tomb_Set_Keep.f ⟨x⟩ l = some (kept x l) := by
  unfold f_tomb_Set_Keep.f f_slices_Clone_api_Sample.f
  rw [chkB (by simp; omega), sb, keep_inst, deleteF_eq (p := fun s => hasB x s.f0) (fun s => by unfold f_tomb_Set_Keep_1_79b.f; rw [hasB_eq x hx h, sb]) _ _ hl, sb]
end Go.Proofs.Yteogljahemehkaa.PvGC1
set_option linter.unusedVariables false
set_option linter.unusedSimpArgs false
namespace Go.Proofs.Yteogljahemehkaa.PvGC1
open Go Go.Pv Go.Pv.GS
theorem refRight (r : Ttomb_Range) : f_pluvialref14_Right.f r = some (decide (RightR r)) := by
  unfold f_pluvialref14_Right.f
  by_cases h1 : 0 ≤ r.f0
  · by_cases h2 : r.f0 ≤ r.f1 <;> simp [h1, h2, RightR]
  · simp [h1, RightR]
theorem hasB_cons (x : Ttomb_Range) (l : List Ttomb_Range) (t : Int) : hasB (x :: l) t = (decide (RightR x ∧ x.f0 ≤ t ∧ t ≤ x.f1) || hasB l t) := by
  rw [Bool.eq_iff_iff, hasB_iff, hasL_cons, Bool.or_eq_true, hasB_iff]; simp
theorem refHas_l0 (l : List Ttomb_Range) (t : Int) (hl : l.length < 1000000000) : ∀ (suf pre : List Ttomb_Range) (i : Int), l = pre ++ suf → i = (pre.length : Int) →
    f_pluvialref14_Has.l0 l t i = some (if hasB suf t = true then .inl true else .inr ()) := by
  intro suf
  induction suf with
  | nil => intro pre i h1 hi; rw [f_pluvialref14_Has.l0, if_neg (by rw [h1]; simp [hi]), hasB_nil]; rfl
  | cons b suf ih =>
    intro pre i h1 hi
    have hlen : l.length = pre.length + (suf.length + 1) := by rw [h1]; simp
    have hb : (f_pluvialref14_Right.f b >>= fun t2967 => if t2967 = true then (if (decide (b.f0 ≤ t)) = true then (some (decide (t ≤ b.f1))) else (some false)) else (some false)) = some (decide (RightR b ∧ b.f0 ≤ t ∧ t ≤ b.f1)) := by
      rw [refRight, sb]
      by_cases h1 : RightR b
      · by_cases h2 : b.f0 ≤ t <;> simp [h1, h2]
      · simp [h1]
    rw [f_pluvialref14_Has.l0, if_pos (by simp; omega), at_mid h1 hi, sb, hb, sb, wrap64 (n := i + 1) (by omega) (by omega), hasB_cons]
    by_cases hc : RightR b ∧ b.f0 ≤ t ∧ t ≤ b.f1
    · rw [if_pos (decide_eq_true hc), if_pos (by rw [decide_eq_true hc]; rfl)]
    · rw [if_neg (by rw [decide_eq_true_eq]; exact hc), ih (pre ++ [b]) (i + 1) (by simp [h1]) (by simp; omega), decide_eq_false hc, Bool.false_or]
theorem refHas (l : List Ttomb_Range) (t : Int) (hl : l.length < 1000000000) : f_pluvialref14_Has.f l t = some (hasB l t) := by
  unfold f_pluvialref14_Has.f
  rw [refHas_l0 l t hl l [] 0 rfl rfl, sb]
  cases hasB l t <;> rfl
theorem edges_l0 (l : List Ttomb_Range) (hl : l.length < 1000000) : ∀ (suf pre : List Ttomb_Range) (o : List Int) (i : Int), l = pre ++ suf → i = (pre.length : Int) → o.length ≤ 4 * pre.length → (∀ r ∈ pre, RightR r → r.f0 ∈ o) →
    ∃ e, f_pluvialref14_Edges.l0 l o i = some e ∧ e.length ≤ 4 * l.length ∧ ∀ r ∈ l, RightR r → r.f0 ∈ e := by
  intro suf
  induction suf with
  | nil =>
    intro pre o i h1 hi ho hm
    rw [List.append_nil] at h1
    subst h1
    rw [f_pluvialref14_Edges.l0, if_neg (by simp [hi])]
    exact ⟨o, rfl, ho, hm⟩
  | cons b suf ih =>
    intro pre o i h1 hi ho hm
    have hlen : l.length = pre.length + (suf.length + 1) := by rw [h1]; simp
    have e1 : l = (pre ++ [b]) ++ suf := by simp [h1]
    rw [f_pluvialref14_Edges.l0, if_pos (by simp; omega), at_mid h1 hi, sb, refRight, sb, wrap64 (n := i + 1) (by omega) (by omega)]
    by_cases hc : RightR b
    · rw [if_pos (decide_eq_true hc), chkB (by simp; omega), sb]
      refine ih (pre ++ [b]) _ (i + 1) e1 (by simp; omega) (by simp; omega) (fun r hr h => ?_)
      rcases List.mem_append.1 hr with hr | hr
      · simp [hm r hr h]
      · simp at hr; subst hr; simp
    · rw [if_neg (by rw [decide_eq_true_eq]; exact hc), sb]
      refine ih (pre ++ [b]) o (i + 1) e1 (by simp; omega) (by simp; omega) (fun r hr h => ?_)
      rcases List.mem_append.1 hr with hr | hr
      · exact hm r hr h
      · simp at hr; subst hr; exact absurd h hc
theorem edges (l : List Ttomb_Range) (hl : l.length < 1000000) : ∃ e, f_pluvialref14_Edges.f l = some e ∧ e.length ≤ 4 * l.length ∧ ∀ r ∈ l, RightR r → r.f0 ∈ e := by
  unfold f_pluvialref14_Edges.f
  obtain ⟨e, h, h2⟩ := edges_l0 l hl l [] [] 0 rfl rfl (by simp) (by simp)
  rw [h, sb]; exact ⟨e, rfl, h2⟩
theorem apart_l0 (l : List Ttomb_Range) (hl : l.length < 1000000000) (h : Apart l) : ∀ (suf pre : List Ttomb_Range) (i : Int), l = pre ++ suf → i = (pre.length : Int) → f_pluviallaw14_apart.l0 l i = some (.inr ()) := by
  intro suf
  induction suf with
  | nil => intro pre i h1 hi; rw [f_pluviallaw14_apart.l0, if_neg (by rw [h1]; simp [hi])]
  | cons b suf ih =>
    intro pre i h1 hi
    have hlen : l.length = pre.length + (suf.length + 1) := by rw [h1]; simp
    have hb : RightR b := h.right b (by rw [h1]; simp)
    rw [f_pluviallaw14_apart.l0, if_pos (by simp; omega), at_mid h1 hi, sb, refRight, sb, if_neg (by rw [decide_eq_true hb]; simp), wrap64 (n := i + 1) (by omega) (by omega)]
    have next := ih (pre ++ [b]) (i + 1) (by simp [h1]) (by simp; omega)
    rcases List.eq_nil_or_concat pre with rfl | ⟨p', p, rfl⟩
    · rw [if_neg (by simp [hi]), sb, if_neg (by simp)]; exact next
    · have hp := List.pairwise_append.1 (h1 ▸ h.gap)
      have hpb : p.f1 + 1 < b.f0 := hp.2.2 p (by simp) b (by simp)
      have hpr : RightR p := h.right p (by rw [h1]; simp)
      simp only [List.concat_eq_append, List.length_append, List.length_singleton] at hi hlen
      rw [if_pos (by simp; omega), wrap64 (n := i - 1) (by omega) (by omega), at_mid (pre := p') (suf := b :: suf) (x := p) (by rw [h1]; simp) (by omega), sb, wrap64 (n := p.f1 + 1) (by omega) (by omega), sb, if_neg (by simp; omega)]
      exact next
theorem apart_true (l : List Ttomb_Range) (hl : l.length < 1000000000) (h : Apart l) : f_pluviallaw14_apart.f l = some true := by
  unfold f_pluviallaw14_apart.f; rw [apart_l0 l hl h l [] 0 rfl rfl, sb]
theorem equal14_l0 (a b : List Ttomb_Range) (hl : a.length = b.length) (ha : a.length < 1000000000) : ∀ (sa sb' pa pb : List Ttomb_Range) (i : Int), a = pa ++ sa → b = pb ++ sb' → pa.length = pb.length → i = (pa.length : Int) →
    f_slices_Equal_tomb_Range.l0 a b i = some (if sa = sb' then .inr () else .inl false) := by
  intro sa
  induction sa with
  | nil =>
    intro sb' pa pb i h1 h2 h3 hi
    have : sb' = [] := by
      rw [h1, h2] at hl; simp at hl
      exact List.length_eq_zero_iff.1 (by omega)
    subst this
    rw [f_slices_Equal_tomb_Range.l0, if_neg (by rw [h1]; simp [hi])]
    rfl
  | cons x sa ih =>
    intro sb' pa pb i h1 h2 h3 hi
    cases sb' with
    | nil => rw [h1, h2] at hl; simp at hl; omega
    | cons y sb' =>
      have hlen : a.length = pa.length + (sa.length + 1) := by rw [h1]; simp
      rw [f_slices_Equal_tomb_Range.l0, if_pos (by simp; omega), at_mid h1 hi, sb, at_mid h2 (by omega), sb, eqR, wrap64 (by omega) (by omega)]
      by_cases e : x = y
      · rw [if_neg (by simpa using e), ih sb' (pa ++ [x]) (pb ++ [y]) (i + 1) (by simp [h1]) (by simp [h2]) (by simp; omega) (by simp; omega)]
        simp [e]
      · rw [if_pos (by simpa using e)]
        simp [e]
theorem tsame (a b : List Ttomb_Range) (ha : a.length < 1000000000) (hb : b.length < 1000000000) : f_tomb_Same.f ⟨a⟩ ⟨b⟩ = some (decide (a = b)) := by
  unfold f_tomb_Same.f f_slices_Equal_tomb_Range.f
  dsimp only
  by_cases h : a.length = b.length
  · rw [if_neg (by simp; omega), equal14_l0 a b h ha a b [] [] 0 rfl rfl rfl rfl, sb]
    by_cases e : a = b <;> simp [e]
  · rw [if_pos (by simp; omega), sb]
    have : a ≠ b := fun e => h (by rw [e])
    simp [this]
theorem hasT_l0 (a b : List Ttomb_Range) (c : Ttomb_Range) (t : Int) (x both less : List Ttomb_Range) (ea eb ec : List Int) (hla : a.length < 1000000) (hlb : b.length < 1000000) (hlx : x.length < 1000000000) (hlB : both.length < 1000000000) (hlL : less.length < 1000000000)
    (he : ((ea ++ eb) ++ (ec ++ [t])).length < 1000000000) (hx : Apart x) (hb : Apart both) (hL : Apart less) (h1 : ∀ k, HasL x k ↔ HasL a k) (h2 : ∀ k, HasL both k ↔ HasL a k ∨ HasL b k) (h3 : ∀ k, HasL less k ↔ HasL a k ∧ ¬ (RightR c ∧ c.f0 ≤ k ∧ k ≤ c.f1)) :
    ∀ (suf pre : List Int) (any : Bool) (i : Int), ((ea ++ eb) ++ (ec ++ [t])) = pre ++ suf → i = (pre.length : Int) →
    f_pluviallaw14_TombHas.l0 a b c t ⟨x⟩ ⟨both⟩ ⟨less⟩ ea eb ec any i = some (.inr (any || suf.any (hasB a))) := by
  intro suf
  induction suf with
  | nil => intro pre any i e hi; rw [f_pluviallaw14_TombHas.l0, if_neg (by rw [e]; simp [hi])]; simp
  | cons k suf ih =>
    intro pre any i e hi
    have hlen : ((ea ++ eb) ++ (ec ++ [t])).length = pre.length + (suf.length + 1) := by rw [e]; simp
    have q1 : hasB x k = hasB a k := by rw [Bool.eq_iff_iff, hasB_iff, hasB_iff, h1]
    have q2 : hasB both k = (hasB a k || hasB b k) := by rw [Bool.eq_iff_iff, hasB_iff, Bool.or_eq_true, hasB_iff, hasB_iff, h2]
    have q3 : hasB less k = (hasB a k && !hasB [c] k) := by
      rw [Bool.eq_iff_iff, hasB_iff, Bool.and_eq_true, hasB_iff, h3, hasB_cons, hasB_nil, Bool.or_false, Bool.not_eq_true', decide_eq_false_iff_not]
    rw [f_pluviallaw14_TombHas.l0, if_pos (by simp only [decide_eq_true_eq]; omega), at_mid e hi, sb, refHas a k (by omega), sb, refHas b k (by omega), sb, wrap64 (n := i + 1) (by omega) (by omega)]
    have next := fun any => ih (pre ++ [k]) any (i + 1) (by rw [e]; simp) (by simp; omega)
    rw [hasB_eq x hlx hx, hasB_eq both hlB hb, hasB_eq less hlL hL, refHas [c] k (by simp), q1, q2, q3]
    rw [List.any_cons]
    cases ea' : hasB a k <;> cases eb' : hasB b k <;> cases ec' : hasB [c] k <;> cases any <;> simp [sb, next]
theorem hasT_l1 (a x both : List Ttomb_Range) (t : Int) (any : Bool) (hla : a.length < 1000000) (h1 : ∀ k, hasB x k = hasB a k) :
    f_pluviallaw14_TombHas.l1 a t ⟨x⟩ ⟨both⟩ (kept x [(⟨t, (⟨0, 0, 0, 0, 0, 0, [], []⟩ : THist)⟩ : TSample), (⟨IntKind.i64.wrap (t + 1), (⟨0, 0, 0, 0, 0, 0, [], []⟩ : THist)⟩ : TSample)]) any 0 0 = some (.inr ((kept x [(⟨t, (⟨0, 0, 0, 0, 0, 0, [], []⟩ : THist)⟩ : TSample), (⟨IntKind.i64.wrap (t + 1), (⟨0, 0, 0, 0, 0, 0, [], []⟩ : THist)⟩ : TSample)]).length : Int)) := by
  have w1 : IntKind.i64.wrap ((0 : Int) + 1) = 1 := by decide
  have w2 : IntKind.i64.wrap ((1 : Int) + 1) = 2 := by decide
  generalize hu : IntKind.i64.wrap (t + 1) = u
  have a0 : ∀ (y z : Int), at? [y, z] 0 = some y := fun _ _ => rfl
  have a1 : ∀ (y z : Int), at? [y, z] 1 = some z := fun _ _ => rfl
  have b0 : ∀ (y : TSample) (l : List TSample), at? (y :: l) 0 = some y := fun _ _ => rfl
  have b1 : ∀ (y z : TSample), at? [y, z] 1 = some z := fun _ _ => rfl
  rw [f_pluviallaw14_TombHas.l1, if_pos (by simp), hu, a0, sb, refHas a t (by omega), sb, w1]
  simp only [kept, List.filter_cons, List.filter_nil, h1]
  cases e1 : hasB a t <;> cases e2 : hasB a u
  · simp only [Bool.not_false, if_true, b0, sb]
    simp only [List.length_cons, List.length_nil, bne_self_eq_false, Bool.false_eq_true, if_false, sb, w1]
    rw [if_neg (by simp), sb, if_neg (by simp)]
    simp only [sb]
    rw [f_pluviallaw14_TombHas.l1, if_pos (by simp), hu, a1, sb, refHas a u (by omega), sb, w2, e2, if_pos (show (!false) = true from rfl), if_neg (by simp), b1, sb]
    simp only [bne_self_eq_false, Bool.false_eq_true, if_false, sb, w2]
    rw [f_pluviallaw14_TombHas.l1, if_neg (by simp)]
    rfl
  · simp only [Bool.not_false, if_true, b0, sb]
    simp only [List.length_cons, List.length_nil, bne_self_eq_false, Bool.false_eq_true, if_false, sb, w1]
    rw [if_neg (by simp), sb, if_neg (by simp)]
    simp only [sb]
    rw [f_pluviallaw14_TombHas.l1, if_pos (by simp), hu, a1, sb, refHas a u (by omega), sb, w2, e2, if_neg (by simp), sb]
    simp only [sb]
    rw [f_pluviallaw14_TombHas.l1, if_neg (by simp)]
    rfl
  · rw [if_neg (by simp), sb]
    simp only [sb]
    rw [f_pluviallaw14_TombHas.l1, if_pos (by simp), hu, a1, sb, refHas a u (by omega), sb, w2, e2, if_pos (show (!false) = true from rfl)]
    simp only [Bool.not_false, Bool.not_true, Bool.false_eq_true, if_true, if_false, b0, sb]
    simp only [List.length_cons, List.length_nil, bne_self_eq_false, Bool.false_eq_true, if_false, sb, w1]
    rw [if_neg (by simp), sb, if_neg (by simp)]
    simp only [sb]
    rw [f_pluviallaw14_TombHas.l1, if_neg (by simp)]
    rfl
  · rw [if_neg (by simp), sb]
    simp only [sb]
    rw [f_pluviallaw14_TombHas.l1, if_pos (by simp), hu, a1, sb, refHas a u (by omega), sb, w2, e2, if_neg (by simp), sb]
    simp only [sb]
    rw [f_pluviallaw14_TombHas.l1, if_neg (by simp)]
    rfl
theorem tombHas_R (a b : List Ttomb_Range) (c : Ttomb_Range) (t : Int) (ha : a.length ≤ maxLen ∧ ∀ y ∈ a, Rtomb_Range y) (hb : b.length ≤ maxLen ∧ ∀ y ∈ b, Rtomb_Range y) (hc : Rtomb_Range c) (ht : I64 t) :
    f_pluviallaw14_TombHas.f a b c t = some true := by
  unfold f_pluviallaw14_TombHas.f
  by_cases g : a.length ≤ 60 ∧ b.length ≤ 60 ∧ t ≤ 4611686018427387904
  case neg =>
    have : ((if (decide ((a.length : Int) > (60 : Int))) = true then (some true) else (if (decide ((b.length : Int) > (60 : Int))) = true then (some true) else (some (decide (t > (4611686018427387904 : Int)))))) : Option Bool) = some true := by
      by_cases h : 60 < a.length
      · rw [if_pos (by simp; omega)]
      · rw [if_neg (by simp; omega)]
        by_cases h : 60 < b.length
        · rw [if_pos (by simp; omega)]
        · rw [if_neg (by simp; omega)]; simp; omega
    rw [this, sb, if_pos rfl, awake14, sb]
  obtain ⟨g1, g2, g3⟩ := g
  rw [if_neg (by simp; omega), if_neg (by simp; omega), sb, if_neg (by simp; omega), to_eq a (by omega), sb]
  obtain ⟨x, ex, hx, hx2, hx3⟩ := of_spec a (by omega)
  rw [ex, sb, to_eq b (by omega), sb]
  obtain ⟨y, ey, hy, hy2, hy3⟩ := of_spec b (by omega)
  rw [ey, sb]
  obtain ⟨xy, e1, h1, h1b, h1c⟩ := and_spec x y (by omega) (by omega)
  obtain ⟨w, e2, h2, h2b, h2c⟩ := without_spec x c (by omega) hx
  have l1 : x.length < 1000000000 := by omega
  have l2 : xy.length < 1000000000 := by omega
  have l3 : w.length < 1000000000 := by omega
  rw [e1, sb, e2, sb, ranges_eq _ l1, sb, apart_true _ l1 hx, sb, if_neg (by simp), ranges_eq _ l2, sb, apart_true _ l2 h1, sb, if_neg (by simp), ranges_eq _ l3, sb, apart_true _ l3 h2, sb, if_neg (by simp), right_eq, sb, refRight, sb, sb, if_neg (by simp)]
  obtain ⟨ea, f1, k1, k1b⟩ := edges a (by omega)
  obtain ⟨eb, f2, k2, k2b⟩ := edges b (by omega)
  obtain ⟨ec, f3, k3, k3b⟩ := edges [c] (by simp)
  have k3' : ec.length ≤ 4 := by simpa using k3
  have l4 : ((ea ++ eb) ++ (ec ++ [t])).length < 1000000000 := by simp; omega
  rw [f1, sb, f2, sb, chkB (by omega), f3, sb, chkB (by simp; omega), chkB (by simp; omega)]
  rw [hasT_l0 a b c t x xy w ea eb ec (by omega) (by omega) l1 l2 l3 l4 hx h1 h2 hx2 (fun k => by rw [h1b, hx2, hy2]) (fun k => by rw [h2b, hx2]) _ [] false 0 rfl rfl, sb]
  dsimp only
  have hAB : ∀ k, hasB x k = hasB a k := fun k => by rw [Bool.eq_iff_iff, hasB_iff, hasB_iff, hx2]
  rw [keep_eq x l1 hx _ (by simp), sb, hasT_l1 a x xy t _ (by omega) hAB, sb]
  dsimp only
  have hany : ((x.length : Int) == 0) = !(((ea ++ eb) ++ (ec ++ [t])).any (hasB a)) := by
    cases x with
    | nil =>
      have : ∀ k, hasB a k = false := fun k => by rw [← hAB, hasB_nil]
      simp [this]
    | cons r x' =>
      have hr := hx.head
      have : HasL a r.f0 := (hx2 r.f0).1 ((hasL_cons ..).2 (.inl ⟨hr, by omega, hr.2.1⟩))
      obtain ⟨s, hs, hsr, hs1, hs2⟩ := this
      have h4 := k1b s hs hsr
      have h5 : hasB a s.f0 = true := (hasB_iff _ _).2 ⟨s, hs, hsr, by omega, hsr.2.1⟩
      have : ((ea ++ eb) ++ (ec ++ [t])).any (hasB a) = true := List.any_eq_true.2 ⟨s.f0, by simp [h4], h5⟩
      rw [this]
      rw [Bool.eq_iff_iff]; simp; omega
  rw [awake14, sb, if_pos rfl, if_pos (by simp)]
  unfold f_tomb_Set_Empty.f
  rw [sb, Bool.false_or, hany, if_pos (by cases ((ea ++ eb) ++ (ec ++ [t])).any (hasB a) <;> rfl), tsame x x l1 l1, sb, if_pos (by simp), tsame x xy l1 l2, sb, same14 x xy l1 l2, sb, sb]
  simp
end Go.Proofs.Yteogljahemehkaa.PvGC1
