import Derived.Test.YteogljahemehkaaPxTombKeeps14
set_option linter.unusedVariables false
set_option linter.unusedSimpArgs false
namespace Go.Proofs.Yteogljahemehkaa.PvGC1
open Go Go.Pv Go.Pv.GS
theorem compare_i64 (a b : Int) : f_cmp_Compare_int64.f a b = some (if a < b then -1 else if a > b then 1 else 0) := by
  unfold f_cmp_Compare_int64.f f_cmp_isNaN_int64.f
  by_cases h1 : a < b
  · simp [h1]
  · by_cases h2 : b < a
    · simp [h1, h2]
    · simp [h1, h2]
theorem or2 (a b : Int) : f_cmp_Or_int.f [a, b] = some (if a ≠ 0 then a else b) := by
  have w1 : IntKind.i64.wrap ((0 : Int) + 1) = 1 := by decide
  have w2 : IntKind.i64.wrap ((1 : Int) + 1) = 2 := by decide
  unfold f_cmp_Or_int.f
  rw [f_cmp_Or_int.l0, if_pos (by simp), show at? [a, b] 0 = some a from rfl, sb]
  by_cases ha : a = 0
  · subst ha
    rw [if_neg (by simp), w1, f_cmp_Or_int.l0, if_pos (by simp), show at? [0, b] 1 = some b from rfl, sb]
    by_cases hb : b = 0
    · subst hb
      rw [if_neg (by simp), w2, f_cmp_Or_int.l0, if_neg (by simp)]; rfl
    · rw [if_pos (by simpa using hb)]; simp [hb]
  · rw [if_pos (by simpa using ha)]; simp [ha]
theorem rCmp : Cmp f_tomb_Of_2.f rLt := fun a b => by
  refine ⟨_, by unfold f_tomb_Of_2.f; rw [compare_i64, sb, compare_i64, sb, or2, sb], ?_⟩
  simp only [rLt]
  by_cases h1 : a.f0 < b.f0
  · simp [h1]
  · by_cases h2 : b.f0 < a.f0
    · have h3 : ¬ a.f0 = b.f0 := by omega
      simp [h1, h2, h3]
    · have h3 : a.f0 = b.f0 := by omega
      by_cases h4 : a.f1 < b.f1
      · simp [h1, h2, h3, h4]
      · by_cases h5 : b.f1 < a.f1 <;> simp [h1, h2, h3, h4, h5]
theorem right_eq (r : Ttomb_Range) : f_tomb_Right.f r = some (decide (RightR r)) := by
  unfold f_tomb_Right.f
  by_cases h1 : 0 ≤ r.f0
  · by_cases h2 : r.f0 ≤ r.f1 <;> simp [h1, h2, RightR]
  · simp [h1, RightR]
theorem bad_eq (r : Ttomb_Range) : f_tomb_Of_1.f r = some (!decide (RightR r)) := by
  unfold f_tomb_Of_1.f; rw [right_eq, sb]
theorem clone_r (l : List Ttomb_Range) (h : l.length < 1000000000) : f_slices_Clone_tomb_Range.f l = some l := by
  unfold f_slices_Clone_tomb_Range.f; rw [chkB (by simp; omega)]
theorem del_inst : f_slices_DeleteFunc_tomb_Range_tomb_Of_1.f = deleteF.f f_tomb_Of_1.f ⟨0, 0⟩ := by kernel_rfl
structure OfI (pre out : List Ttomb_Range) : Prop where
  apart : Apart out
  has : ∀ t, HasL out t ↔ HasL pre t
  seen : ∀ o ∈ out, ∃ p ∈ pre, p.f0 = o.f0
  len : out.length ≤ pre.length
theorem of_l0 (l : List Ttomb_Range) (hl : l.length < 1000000000) (hR : ∀ r ∈ l, RightR r) (hs : l.Pairwise (fun a b => rLt b a = false)) : ∀ (suf pre out : List Ttomb_Range) (i : Int), l = pre ++ suf → i = (pre.length : Int) → OfI pre out →
    ∃ out', f_tomb_Of.l0 l out i = some out' ∧ OfI l out' := by
  intro suf
  induction suf with
  | nil =>
    intro pre out i h1 hi hI
    rw [List.append_nil] at h1
    subst h1
    rw [f_tomb_Of.l0, if_neg (by simp [hi])]
    exact ⟨out, rfl, hI⟩
  | cons b suf ih =>
    intro pre out i h1 hi hI
    have hb := hR b (by rw [h1]; simp)
    have hlen : l.length = pre.length + (suf.length + 1) := by rw [h1]; simp
    have holen : out.length ≤ pre.length := hI.len
    have hle : ∀ p ∈ pre, p.f0 ≤ b.f0 := fun p hp => by
      rw [h1] at hs
      have := (List.pairwise_append.1 hs).2.2 p hp b (by simp)
      simp [rLt] at this; omega
    have e1 : l = (pre ++ [b]) ++ suf := by simp [h1]
    have e2 : i + 1 = ((pre ++ [b]).length : Int) := by simp [hi]
    rw [f_tomb_Of.l0, if_pos (by rw [h1]; simp [hi]; omega), at_mid h1 hi, sb, wrap64 (n := i + 1) (by omega) (by omega)]
    have hroom : (out.length + [b].length) * 16 ≤ 140737488355328 := by simp; omega
    have happ : ∀ (hlt : ∀ o ∈ out, o.f1 + 1 < b.f0), OfI (pre ++ [b]) (out ++ [b]) := fun hlt =>
      ⟨apart_snoc hI.apart hb hlt, fun t => by rw [hasL_append, hasL_append, hI.has], fun o ho => by
        rcases List.mem_append.1 ho with ho | ho
        · obtain ⟨p, hp, e⟩ := hI.seen o ho; exact ⟨p, by simp [hp], e⟩
        · simp at ho; subst ho; exact ⟨o, by simp, rfl⟩, by simp; omega⟩
    rcases List.eq_nil_or_concat out with rfl | ⟨o', o, rfl⟩
    · rw [if_neg (by simp), sb, if_neg (by simp), chkB hroom, sb]
      exact ih (pre ++ [b]) _ (i + 1) e1 e2 (happ (by simp))
    simp only [List.concat_eq_append] at *
    have ho' : o'.length < 1000000000000 := by simp at holen; omega
    obtain ⟨ha', hox, hog⟩ := apart_concat hI.apart
    rw [if_pos (by simp), snoc_at _ _ ho', sb, sb, wrap64 (n := o.f1 + 1) (by omega) (by omega)]
    by_cases hc : b.f0 ≤ o.f1 + 1
    · rw [if_pos (by simpa using hc), sb, snoc_set _ _ _ ho', sb]
      obtain ⟨p, hp, hpo⟩ := hI.seen o (by simp)
      have hob : o.f0 ≤ b.f0 := hpo ▸ hle p hp
      refine ih (pre ++ [b]) _ (i + 1) e1 e2 ⟨apart_snoc ha' ?_ ?_, fun t => ?_, fun q hq => ?_, by simp at holen ⊢; omega⟩
      · show 0 ≤ o.f0 ∧ o.f0 ≤ _ ∧ _ ≤ _
        split <;> (dsimp only; omega)
      · intro r hr; exact hog r hr
      · have := hI.has t
        rw [hasL_append, hasL_cons] at this ⊢
        rw [hasL_append, hasL_cons, ← this]
        have n1 : ¬ HasL [] t := hasL_nil t
        by_cases q : HasL o' t
        · simp [q]
        · simp only [q, n1, or_false, false_or, RightR] at *
          split <;> omega
      · rcases List.mem_append.1 hq with hq | hq
        · obtain ⟨p, hp, e⟩ := hI.seen q (by simp [hq]); exact ⟨p, by simp [hp], e⟩
        · simp at hq; subst hq; exact ⟨p, by simp [hp], hpo⟩
    · rw [if_neg (by simpa using hc), chkB hroom, sb]
      exact ih (pre ++ [b]) _ (i + 1) e1 e2 (happ (fun r hr => by
        rcases List.mem_append.1 hr with hr | hr
        · have := hog r hr; omega
        · simp at hr; subst hr; omega))
theorem of_spec (l : List Ttomb_Range) (hl : l.length < 1000000000) : ∃ r, f_tomb_Of.f l = some ⟨r⟩ ∧ Apart r ∧ (∀ t, HasL r t ↔ HasL l t) ∧ r.length ≤ l.length := by
  unfold f_tomb_Of.f
  rw [clone_r l hl, sb, del_inst, deleteF_eq bad_eq _ _ hl, sb, tsort_inst]
  have hf : (l.filter fun x => !(!decide (RightR x))).length ≤ l.length := List.length_filter_le ..
  obtain ⟨s, e, hp, hs⟩ := sortF rCmp rLt_swo (l.filter fun x => !(!decide (RightR x))) (by omega)
  rw [e, sb]
  have hsl := hp.length_eq
  obtain ⟨out, e2, hI⟩ := of_l0 s (by omega) (fun r hr => by
    have := (List.mem_filter.1 (hp.mem_iff.1 hr)).2
    simpa using this) hs s [] [] 0 rfl rfl ⟨Apart.nil, fun t => Iff.rfl, by simp, by simp⟩
  rw [e2, sb]
  exact ⟨out, rfl, hI.apart, fun t => by rw [hI.has, hasL_perm hp, hasL_filter _ _ _ (fun r hr => by simp [hr])], by have := hI.len; omega⟩
theorem ranges_eq (s : Ttomb_Set) (h : s.f0.length < 1000000000) : f_tomb_Set_Ranges.f s = some s.f0 := by
  unfold f_tomb_Set_Ranges.f; rw [clone_r _ h, sb]
theorem has_eq (l : List Ttomb_Range) (hl : l.length < 1000000000) (h : Apart l) (t : Int) : ∃ b, f_tomb_Set_Has.f ⟨l⟩ t = some b ∧ (b = true ↔ HasL l t) := by
  unfold f_tomb_Set_Has.f
  have hi : f_slices_BinarySearchFunc_tomb_Range_tomb_Set_Has_1.f = binF.f f_tomb_Set_Has_1.f := by kernel_rfl
  have hc : ∀ x, f_tomb_Set_Has_1.f x t = some (if x.f0 < t then -1 else if x.f0 > t then 1 else 0) := fun x => by
    unfold f_tomb_Set_Has_1.f; rw [compare_i64, sb]
  have hlt : ∀ i j (x y : Ttomb_Range), i < j → l[i]? = some x → l[j]? = some y → x.f1 + 1 < y.f0 := fun i j x y hij hx hy => by
    obtain ⟨hi', ex⟩ := List.getElem?_eq_some_iff.1 hx
    obtain ⟨hj', ey⟩ := List.getElem?_eq_some_iff.1 hy
    have := List.pairwise_iff_getElem.1 h.gap i j hi' hj' hij
    rw [ex, ey] at this; exact this
  have hR : ∀ i (x : Ttomb_Range), l[i]? = some x → RightR x := fun i x hx => h.right x (List.mem_of_getElem? hx)
  obtain ⟨k, fb, hk, hfb, e⟩ := binF_eq hc l hl (fun i j x y hij hx hy hneg => by
    have hyt : y.f0 < t := by
      by_cases q : y.f0 < t
      · exact q
      · rw [if_neg q] at hneg; split at hneg <;> omega
    have : x.f0 < t := by
      by_cases q : i = j
      · subst q; rw [hx] at hy; simp at hy; subst hy; exact hyt
      · have := hlt i j x y (by omega) hx hy
        have := hR i x hx
        omega
    rw [if_pos this]; omega)
  have hlo : ∀ m x, m < k → l[m]? = some x → x.f0 < t := fun m x hm hx => by
    have := hk.lo m x hm hx
    by_cases q : x.f0 < t
    · exact q
    · rw [if_neg q] at this; split at this <;> omega
  have hhi : ∀ m x, k ≤ m → l[m]? = some x → t ≤ x.f0 := fun m x hm hx => by
    have := hk.hi m x hm hx
    by_cases q : x.f0 < t
    · rw [if_pos q] at this; omega
    · omega
  rw [hi, e, sb]
  have main : ∀ (m : Nat) (x : Ttomb_Range), l[m]? = some x → RightR x ∧ x.f0 ≤ t ∧ t ≤ x.f1 → (∃ y, l[k]? = some y ∧ y.f0 = t) ∨ (0 < k ∧ ∃ y, l[k - 1]? = some y ∧ t ≤ y.f1) := fun m x hx q => by
    have hml := (List.getElem?_eq_some_iff.1 hx).1
    by_cases hm : m < k
    · right
      refine ⟨by omega, ?_⟩
      by_cases hm1 : m = k - 1
      · exact ⟨x, hm1 ▸ hx, q.2.2⟩
      · have hk1 : k - 1 < l.length := by have := hk.le; omega
        have a := hlo (k - 1) _ (by omega) (List.getElem?_eq_getElem hk1)
        have b := hlt m (k - 1) x _ (by omega) hx (List.getElem?_eq_getElem hk1)
        omega
    · left
      have hkl : k < l.length := by omega
      refine ⟨l[k], List.getElem?_eq_getElem hkl, ?_⟩
      have a := hhi k _ (by omega) (List.getElem?_eq_getElem hkl)
      by_cases hmk : m = k
      · subst hmk; rw [List.getElem?_eq_getElem hkl] at hx; simp at hx; rw [hx] at a ⊢; omega
      · have b := hlt k m _ x (by omega) (List.getElem?_eq_getElem hkl) hx
        have c := hR k _ (List.getElem?_eq_getElem hkl)
        omega
  have main' : HasL l t → (∃ y, l[k]? = some y ∧ y.f0 = t) ∨ (0 < k ∧ ∃ y, l[k - 1]? = some y ∧ t ≤ y.f1) := fun ⟨r, hr, q⟩ => by
    obtain ⟨m, hm⟩ := List.getElem?_of_mem hr
    exact main m r hm q
  have hz : ∀ y : Ttomb_Range, (if y.f0 < t then (-1 : Int) else if y.f0 > t then 1 else 0) = 0 ↔ y.f0 = t := fun y => by
    by_cases q : y.f0 < t
    · rw [if_pos q]; omega
    · by_cases q2 : y.f0 > t
      · rw [if_neg q, if_pos q2]; omega
      · rw [if_neg q, if_neg q2]; omega
  simp only [hz] at hfb
  dsimp only
  by_cases hf : ∃ y, l[k]? = some y ∧ y.f0 = t
  · rw [if_pos (hfb.2 hf), sb]
    obtain ⟨y, hy, hyt⟩ := hf
    refine ⟨true, rfl, by simp; exact ⟨y, List.mem_of_getElem? hy, hR k y hy, by omega, by have := (hR k y hy).2.1; omega⟩⟩
  · rw [if_neg (fun q => hf (hfb.1 q))]
    by_cases hk0 : 0 < k
    · have hk1 : k - 1 < l.length := by have := hk.le; omega
      have hy := List.getElem?_eq_getElem hk1
      rw [if_pos (by simpa using hk0), wrap64 (by have := hk.le; omega) (by have := hk.le; omega), at_nat (k := k - 1) (by omega) hy, sb, sb]
      refine ⟨_, rfl, ?_⟩
      simp only [decide_eq_true_eq]
      constructor
      · intro q
        exact ⟨_, List.mem_of_getElem? hy, hR _ _ hy, by have := hlo (k - 1) _ (by omega) hy; omega, q⟩
      · intro q
        rcases main' q with q | ⟨_, y, hy', q⟩
        · exact absurd q hf
        · rw [hy] at hy'; simp at hy'; rw [hy']; exact q
    · rw [if_neg (by simpa using hk0), sb]
      refine ⟨false, rfl, by simp; intro q; rcases main' q with q | q
                             · exact hf q
                             · omega⟩
end Go.Proofs.Yteogljahemehkaa.PvGC1
set_option linter.unusedVariables false
set_option linter.unusedSimpArgs false
namespace Go.Proofs.Yteogljahemehkaa.PvGC1
open Go Go.Pv Go.Pv.GS
theorem awake14 : f_pluviallaw14_awake.f = some true := by
  unfold f_pluviallaw14_awake.f
  obtain ⟨r, e, h1, h2, h3⟩ := of_spec [(⟨4, 5⟩ : Ttomb_Range), (⟨1, 3⟩ : Ttomb_Range), (⟨9, 9⟩ : Ttomb_Range)] (by simp)
  have : r = [(⟨1, 5⟩ : Ttomb_Range), (⟨9, 9⟩ : Ttomb_Range)] := by
    refine apart_unique h1 ⟨by simp [RightR], by simp⟩ (fun t => ?_)
    rw [h2]
    simp only [hasL_cons, RightR]
    have n1 : ¬ HasL [] t := hasL_nil t
    simp only [n1, or_false]
    omega
  subst this
  rw [e, sb, ranges_eq _ (by simp), sb]
  rfl
theorem to_l0 (l : List Ttomb_Range) (hl : l.length < 1000000000) : ∀ (suf pre : List Ttomb_Range) (i : Int), l = pre ++ suf → i = (pre.length : Int) → f_pluviallaw14_To.l0 l pre i = some l := by
  intro suf
  induction suf with
  | nil => intro pre i h1 hi; rw [f_pluviallaw14_To.l0, if_neg (by rw [h1]; simp [hi]), h1, List.append_nil]
  | cons b suf ih =>
    intro pre i h1 hi
    have hlen : l.length = pre.length + (suf.length + 1) := by rw [h1]; simp
    rw [f_pluviallaw14_To.l0, if_pos (by simp; omega), at_mid h1 hi, sb, chkB (by simp; omega), wrap64 (by omega) (by omega)]
    exact ih (pre ++ [b]) (i + 1) (by simp [h1]) (by simp; omega)
theorem to_eq (l : List Ttomb_Range) (hl : l.length < 1000000000) : f_pluviallaw14_To.f l = some l := by
  unfold f_pluviallaw14_To.f; rw [to_l0 l hl l [] 0 rfl rfl, sb]
end Go.Proofs.Yteogljahemehkaa.PvGC1
set_option linter.unusedVariables false
set_option linter.unusedSimpArgs false
namespace Go.Proofs.Yteogljahemehkaa.PvGC1
open Go Go.Pv Go.Pv.GS
open Classical in
noncomputable def hasB (l : List Ttomb_Range) (t : Int) : Bool := decide (HasL l t)
theorem hasB_iff (l : List Ttomb_Range) (t : Int) : hasB l t = true ↔ HasL l t := by simp [hasB]
theorem hasB_eq (l : List Ttomb_Range) (hl : l.length < 1000000000) (h : Apart l) (t : Int) : f_tomb_Set_Has.f ⟨l⟩ t = some (hasB l t) := by
  obtain ⟨b, e, hb⟩ := has_eq l hl h t
  rw [e, show b = hasB l t from Bool.eq_iff_iff.2 (hb.trans (hasB_iff l t).symm)]
theorem hasB_nil (t : Int) : hasB [] t = false := by
  cases e : hasB [] t with
  | false => rfl
  | true => exact absurd ((hasB_iff _ _).1 e) (hasL_nil t)
noncomputable abbrev kept (x : List Ttomb_Range) (l : List TSample) : List TSample := l.filter (fun s => !hasB x s.f0)
theorem keep_inst (l : List TSample) (c : List Ttomb_Range) : f_slices_DeleteFunc_api_Sample_tomb_Set_Keep_1_28a.f l c = deleteF.f (fun x => f_tomb_Set_Keep_1_79b.f x c) (⟨0, (⟨0, 0, 0, 0, 0, 0, [], []⟩ : THist)⟩ : TSample) l := by kernel_rfl
theorem keep_eq (x : List Ttomb_Range) (hx : x.length < 1000000000) (h : Apart x) (l : List TSample) (hl : l.length < 1000000000) : f_tomb_Set_Keep.f ⟨x⟩ l = some (kept x l) := by
  unfold f_tomb_Set_Keep.f f_slices_Clone_api_Sample.f
  rw [chkB (by simp; omega), sb, keep_inst, deleteF_eq (p := fun s => hasB x s.f0) (fun s => by unfold f_tomb_Set_Keep_1_79b.f; rw [hasB_eq x hx h, sb]) _ _ hl, sb]
theorem keeps_l0 (a : List Int) (q : Ttomb_Set) (ha : a.length < 1000000) : ∀ (m : Nat) (o : List TSample) (i : Int), m + o.length = a.length → i = (o.length : Int) → ∃ r, f_pluviallaw14_TombKeeps.l0 a q o i = some r ∧ r.length = a.length := by
  intro m
  induction m with
  | zero => intro o i h1 hi; rw [f_pluviallaw14_TombKeeps.l0, if_neg (by simp; omega)]; exact ⟨o, rfl, by omega⟩
  | succ m ih =>
    intro o i h1 hi
    rw [f_pluviallaw14_TombKeeps.l0, if_pos (by simp; omega), at_nat hi (List.getElem?_eq_getElem (by omega)), sb, chkB (by simp; omega), wrap64 (n := i + 1) (by omega) (by omega)]
    exact ih _ (i + 1) (by simp; omega) (by simp; omega)
theorem keeps_l1 (x : List Ttomb_Range) (hx : x.length < 1000000000) (h : Apart x) (again : List TSample) (l : List TSample) (hl : l.length < 1000000) : ∀ (suf pre : List TSample) (n i : Int), l = pre ++ suf → i = (pre.length : Int) → n = ((kept x pre).length : Int) →
    f_pluviallaw14_TombKeeps.l1 ⟨x⟩ (kept x l) again l n i = some (.inr ((kept x l).length : Int)) := by
  intro suf
  induction suf with
  | nil =>
    intro pre n i h1 hi hn
    rw [List.append_nil] at h1
    subst h1
    rw [f_pluviallaw14_TombKeeps.l1, if_neg (by simp [hi]), hn]
  | cons s suf ih =>
    intro pre n i h1 hi hn
    have hlen : l.length = pre.length + (suf.length + 1) := by rw [h1]; simp
    rw [f_pluviallaw14_TombKeeps.l1, if_pos (by simp; omega), at_mid h1 hi, sb, hasB_eq x hx h, sb, wrap64 (n := i + 1) (by omega) (by omega)]
    have hpl : (kept x pre).length ≤ pre.length := List.length_filter_le ..
    have e1 : l = (pre ++ [s]) ++ suf := by simp [h1]
    cases e : hasB x s.f0 with
    | true =>
      rw [if_neg (by simp), sb]
      exact ih (pre ++ [s]) n (i + 1) e1 (by simp; omega) (by simp [kept, List.filter_append, e]; exact hn)
    | false =>
      have hk : kept x l = kept x pre ++ s :: kept x suf := by
        rw [h1]; simp [kept, List.filter_append, e]
      have hk2 : kept x (pre ++ [s]) = kept x pre ++ [s] := by simp [kept, List.filter_append, e]
      rw [if_pos (show (!false) = true from rfl), if_neg (by rw [hk]; simp; omega), at_mid hk hn, sb, if_neg (by simp), sb, if_neg (by simp), sb, wrap64 (n := n + 1) (by omega) (by omega)]
      exact ih (pre ++ [s]) (n + 1) (i + 1) e1 (by simp; omega) (by rw [hk2]; simp; exact hn)
theorem tombKeeps_R (a : List Ttomb_Range) (times : List Int) (ha : a.length ≤ maxLen ∧ ∀ y ∈ a, Rtomb_Range y) (hb : times.length ≤ maxLen ∧ ∀ y ∈ times, Rng 0 65536 y) :
    f_pluviallaw14_TombKeeps.f a times = some true := by
  unfold f_pluviallaw14_TombKeeps.f
  by_cases g : a.length ≤ 60 ∧ times.length ≤ 100
  case neg =>
    have : ((if (decide ((a.length : Int) > (60 : Int))) = true then (some true) else (some (decide ((times.length : Int) > (100 : Int))))) : Option Bool) = some true := by
      by_cases h : 60 < a.length
      · rw [if_pos (by simp; omega)]
      · rw [if_neg (by simp; omega)]; simp; omega
    rw [this, sb, if_pos rfl, awake14, sb]
  obtain ⟨g1, g2⟩ := g
  rw [if_neg (by simp; omega), sb, if_neg (by simp; omega), to_eq a (by omega), sb]
  obtain ⟨x, ex, hx, hx2, hx3⟩ := of_spec a (by omega)
  rw [ex, sb]
  obtain ⟨l, el, hl⟩ := keeps_l0 times ⟨x⟩ (by omega) times.length [] 0 (by simp) rfl
  have hk : (kept x l).length ≤ l.length := List.length_filter_le ..
  have hkk : kept x (kept x l) = kept x l := by simp [kept, List.filter_filter]
  have hn : kept [] l = l := by simp [kept, hasB_nil]
  rw [el, sb, keep_eq x (by omega) hx l (by omega), sb, keep_eq x (by omega) hx _ (by omega), sb, keeps_l1 x (by omega) hx _ l (by omega) l [] 0 0 rfl rfl rfl, sb]
  dsimp only
  rw [awake14, sb, if_pos rfl, if_pos (by simp), if_pos (by rw [hkk]; simp), keep_eq [] (by simp) Apart.nil l (by omega), sb, if_pos (by rw [hn]; simp)]
  unfold f_tomb_Set_Empty.f
  rw [sb, if_pos (by rfl), hasB_eq [] (by simp) Apart.nil, sb, hasB_nil, sb]
  rfl
end Go.Proofs.Yteogljahemehkaa.PvGC1
