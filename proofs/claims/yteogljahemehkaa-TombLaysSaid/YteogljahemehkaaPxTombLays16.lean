import Derived.Test.YteogljahemehkaaPxTombLays15
set_option linter.unusedVariables false
set_option linter.unusedSimpArgs false
namespace Go.Proofs.Yteogljahemehkaa.PvGC1
open Go Go.Pv Go.Pv.GS
theorem compare_i64 (a b : Int) : f_cmp_Compare_int64.f a b = some (if a < b then -1 else if a > b then 1 else 0) := by
  unfold f_cmp_Compare_int64.f f_cmp_isNaN_int64.f
  by_cases h1 : a < b
  · simp [h1]
  · by_cases h2 : b < a
    · simp [h1, h2]
    · simp [h1, h2]
theorem or2 (a b : Int) : f_cmp_Or_int.f [a, b] = some (if a ≠ 0 then a else b) := by
  have w1 : IntKind.i64.wrap ((0 : Int) + 1) = 1 := by decide
  have w2 : IntKind.i64.wrap ((1 : Int) + 1) = 2 := by decide
  unfold f_cmp_Or_int.f
  rw [f_cmp_Or_int.l0, if_pos (by simp), show at? [a, b] 0 = some a from rfl, sb]
  by_cases ha : a = 0
  · subst ha
    rw [if_neg (by simp), w1, f_cmp_Or_int.l0, if_pos (by simp), show at? [0, b] 1 = some b from rfl, sb]
    by_cases hb : b = 0
    · subst hb
      rw [if_neg (by simp), w2, f_cmp_Or_int.l0, if_neg (by simp)]; rfl
    · rw [if_pos (by simpa using hb)]; simp [hb]
  · rw [if_pos (by simpa using ha)]; simp [ha]
theorem rCmp : Cmp f_tomb_Of_2.f rLt := fun a b => by
  refine ⟨_, by unfold f_tomb_Of_2.f; rw [compare_i64, sb, compare_i64, sb, or2, sb], ?_⟩
  simp only [rLt]
  by_cases h1 : a.f0 < b.f0
  · simp [h1]
  · by_cases h2 : b.f0 < a.f0
    · have h3 : ¬ a.f0 = b.f0 := by omega
      simp [h1, h2, h3]
    · have h3 : a.f0 = b.f0 := by omega
      by_cases h4 : a.f1 < b.f1
      · simp [h1, h2, h3, h4]
      · by_cases h5 : b.f1 < a.f1 <;> simp [h1, h2, h3, h4, h5]
theorem right_eq (r : Ttomb_Range) : f_tomb_Right.f r = some (decide (RightR r)) := by
  unfold f_tomb_Right.f
  by_cases h1 : 0 ≤ r.f0
  · by_cases h2 : r.f0 ≤ r.f1 <;> simp [h1, h2, RightR]
  · simp [h1, RightR]
theorem bad_eq (r : Ttomb_Range) : f_tomb_Of_1.f r = some (!decide (RightR r)) := by
  unfold f_tomb_Of_1.f; rw [right_eq, sb]
theorem clone_r (l : List Ttomb_Range) (h : l.length < 1000000000) : f_slices_Clone_tomb_Range.f l = some l := by
  unfold f_slices_Clone_tomb_Range.f; rw [chkB (by simp; omega)]
theorem del_inst : f_slices_DeleteFunc_tomb_Range_tomb_Of_1.f = deleteF.f f_tomb_Of_1.f ⟨0, 0⟩ := by kernel_rfl
structure OfI (pre out : List Ttomb_Range) : Prop where
  apart : Apart out
  has : ∀ t, HasL out t ↔ HasL pre t
  seen : ∀ o ∈ out, ∃ p ∈ pre, p.f0 = o.f0
  len : out.length ≤ pre.length
theorem of_l0 (l : List Ttomb_Range) (hl : l.length < 1000000000) (hR : ∀ r ∈ l, RightR r) (hs : l.Pairwise (fun a b => rLt b a = false)) : ∀ (suf pre out : List Ttomb_Range) (i : Int), l = pre ++ suf → i = (pre.length : Int) → OfI pre out →
    ∃ out', f_tomb_Of.l0 l out i = some out' ∧ OfI l out' := by
  intro suf
  induction suf with
  | nil =>
    intro pre out i h1 hi hI
    rw [List.append_nil] at h1
    subst h1
    rw [f_tomb_Of.l0, if_neg (by simp [hi])]
    exact ⟨out, rfl, hI⟩
  | cons b suf ih =>
    intro pre out i h1 hi hI
    have hb := hR b (by rw [h1]; simp)
    have hlen : l.length = pre.length + (suf.length + 1) := by rw [h1]; simp
    have holen : out.length ≤ pre.length := hI.len
    have hle : ∀ p ∈ pre, p.f0 ≤ b.f0 := fun p hp => by
      rw [h1] at hs
      have := (List.pairwise_append.1 hs).2.2 p hp b (by simp)
      simp [rLt] at this; omega
    have e1 : l = (pre ++ [b]) ++ suf := by simp [h1]
    have e2 : i + 1 = ((pre ++ [b]).length : Int) := by simp [hi]
    rw [f_tomb_Of.l0, if_pos (by rw [h1]; simp [hi]; omega), at_mid h1 hi, sb, wrap64 (n := i + 1) (by omega) (by omega)]
    have hroom : (out.length + [b].length) * 16 ≤ 140737488355328 := by simp; omega
    have happ : ∀ (hlt : ∀ o ∈ out, o.f1 + 1 < b.f0), OfI (pre ++ [b]) (out ++ [b]) := fun hlt =>
      ⟨apart_snoc hI.apart hb hlt, fun t => by rw [hasL_append, hasL_append, hI.has], fun o ho => by
        rcases List.mem_append.1 ho with ho | ho
        · obtain ⟨p, hp, e⟩ := hI.seen o ho; exact ⟨p, by simp [hp], e⟩
        · simp at ho; subst ho; exact ⟨o, by simp, rfl⟩, by simp; omega⟩
    rcases List.eq_nil_or_concat out with rfl | ⟨o', o, rfl⟩
    · rw [if_neg (by simp), sb, if_neg (by simp), chkB hroom, sb]
      exact ih (pre ++ [b]) _ (i + 1) e1 e2 (happ (by simp))
    simp only [List.concat_eq_append] at *
    have ho' : o'.length < 1000000000000 := by simp at holen; omega
    obtain ⟨ha', hox, hog⟩ := apart_concat hI.apart
    rw [if_pos (by simp), snoc_at _ _ ho', sb, sb, wrap64 (n := o.f1 + 1) (by omega) (by omega)]
    by_cases hc : b.f0 ≤ o.f1 + 1
    · rw [if_pos (by simpa using hc), sb, snoc_set _ _ _ ho', sb]
      obtain ⟨p, hp, hpo⟩ := hI.seen o (by simp)
      have hob : o.f0 ≤ b.f0 := hpo ▸ hle p hp
      refine ih (pre ++ [b]) _ (i + 1) e1 e2 ⟨apart_snoc ha' ?_ ?_, fun t => ?_, fun q hq => ?_, by simp at holen ⊢; omega⟩
      · show 0 ≤ o.f0 ∧ o.f0 ≤ _ ∧ _ ≤ _
        split <;> (dsimp only; omega)
      · intro r hr; exact hog r hr
      · have := hI.has t
        rw [hasL_append, hasL_cons] at this ⊢
        rw [hasL_append, hasL_cons, ← this]
        have n1 : ¬ HasL [] t := hasL_nil t
        by_cases q : HasL o' t
        · simp [q]
        · simp only [q, n1, or_false, false_or, RightR] at *
          split <;> omega
      · rcases List.mem_append.1 hq with hq | hq
        · obtain ⟨p, hp, e⟩ := hI.seen q (by simp [hq]); exact ⟨p, by simp [hp], e⟩
        · simp at hq; subst hq; exact ⟨p, by simp [hp], hpo⟩
    · rw [if_neg (by simpa using hc), chkB hroom, sb]
      exact ih (pre ++ [b]) _ (i + 1) e1 e2 (happ (fun r hr => by
        rcases List.mem_append.1 hr with hr | hr
        · have := hog r hr; omega
        · simp at hr; subst hr; omega))
theorem of_spec (l : List Ttomb_Range) (hl : l.length < 1000000000) : ∃ r, f_tomb_Of.f l = some ⟨r⟩ ∧ Apart r ∧ (∀ t, HasL r t ↔ HasL l t) ∧ r.length ≤ l.length := by
  unfold f_tomb_Of.f
  rw [clone_r l hl, sb, del_inst, deleteF_eq bad_eq _ _ hl, sb, tsort_inst]
  have hf : (l.filter fun x => !(!decide (RightR x))).length ≤ l.length := List.length_filter_le ..
  obtain ⟨s, e, hp, hs⟩ := sortF rCmp rLt_swo (l.filter fun x => !(!decide (RightR x))) (by omega)
  rw [e, sb]
  have hsl := hp.length_eq
  obtain ⟨out, e2, hI⟩ := of_l0 s (by omega) (fun r hr => by
    have := (List.mem_filter.1 (hp.mem_iff.1 hr)).2
    simpa using this) hs s [] [] 0 rfl rfl ⟨Apart.nil, fun t => Iff.rfl, by simp, by simp⟩
  rw [e2, sb]
  exact ⟨out, rfl, hI.apart, fun t => by rw [hI.has, hasL_perm hp, hasL_filter _ _ _ (fun r hr => by simp [hr])], by have := hI.len; omega⟩
theorem ranges_eq (s : Ttomb_Set) (h : s.f0.length < 1000000000) : f_tomb_Set_Ranges.f s = some s.f0 := by
  unfold f_tomb_Set_Ranges.f; rw [clone_r _ h, sb]
end Go.Proofs.Yteogljahemehkaa.PvGC1
set_option linter.unusedVariables false
set_option linter.unusedSimpArgs false
namespace Go.Proofs.Yteogljahemehkaa.PvGC1
open Go Go.Pv Go.Pv.GS
theorem awake14 : f_pluviallaw14_awake.f = some true := by
  unfold f_pluviallaw14_awake.f
  obtain ⟨r, e, h1, h2, h3⟩ := of_spec [(⟨4, 5⟩ : Ttomb_Range), (⟨1, 3⟩ : Ttomb_Range), (⟨9, 9⟩ : Ttomb_Range)] (by simp)
  have : r = [(⟨1, 5⟩ : Ttomb_Range), (⟨9, 9⟩ : Ttomb_Range)] := by
    refine apart_unique h1 ⟨by simp [RightR], by simp⟩ (fun t => ?_)
    rw [h2]
    simp only [hasL_cons, RightR]
    have n1 : ¬ HasL [] t := hasL_nil t
    simp only [n1, or_false]
    omega
  subst this
  rw [e, sb, ranges_eq _ (by simp), sb]
  rfl
theorem eqR (a b : Ttomb_Range) : ((a.f0 == b.f0) && ((a.f1 == b.f1) && true)) = decide (a = b) := by
  obtain ⟨a0, a1⟩ := a
  obtain ⟨b0, b1⟩ := b
  by_cases h0 : a0 = b0 <;> by_cases h1 : a1 = b1 <;> simp [h0, h1]
theorem same14_l0 (a b : List Ttomb_Range) (hl : a.length = b.length) (ha : a.length < 1000000000) : ∀ (sa sb' pa pb : List Ttomb_Range) (i : Int), a = pa ++ sa → b = pb ++ sb' → pa.length = pb.length → i = (pa.length : Int) →
    f_pluviallaw14_same.l0 a b i = some (if sa = sb' then .inr () else .inl false) := by
  intro sa
  induction sa with
  | nil =>
    intro sb' pa pb i h1 h2 h3 hi
    have : sb' = [] := by
      rw [h1, h2] at hl; simp at hl
      exact List.length_eq_zero_iff.1 (by omega)
    subst this
    rw [f_pluviallaw14_same.l0, if_neg (by rw [h1]; simp [hi])]
    rfl
  | cons x sa ih =>
    intro sb' pa pb i h1 h2 h3 hi
    cases sb' with
    | nil => rw [h1, h2] at hl; simp at hl; omega
    | cons y sb' =>
      have hlen : a.length = pa.length + (sa.length + 1) := by rw [h1]; simp
      rw [f_pluviallaw14_same.l0, if_pos (by simp; omega), at_mid h1 hi, sb, at_mid h2 (by omega), sb, eqR, wrap64 (by omega) (by omega)]
      by_cases e : x = y
      · rw [if_neg (by simpa using e), ih sb' (pa ++ [x]) (pb ++ [y]) (i + 1) (by simp [h1]) (by simp [h2]) (by simp; omega) (by simp; omega)]
        simp [e]
      · rw [if_pos (by simpa using e)]
        simp [e]
theorem same14 (a b : List Ttomb_Range) (ha : a.length < 1000000000) (hb : b.length < 1000000000) : f_pluviallaw14_same.f ⟨a⟩ ⟨b⟩ = some (decide (a = b)) := by
  unfold f_pluviallaw14_same.f
  rw [ranges_eq _ (by simpa using ha), sb, ranges_eq _ (by simpa using hb), sb]
  by_cases h : a.length = b.length
  · rw [if_neg (by simp; omega), same14_l0 a b h ha a b [] [] 0 rfl rfl rfl rfl, sb]
    by_cases e : a = b <;> simp [e]
  · rw [if_pos (by simp; omega)]
    have : a ≠ b := fun e => h (by rw [e])
    simp [this]
theorem to_l0 (l : List Ttomb_Range) (hl : l.length < 1000000000) : ∀ (suf pre : List Ttomb_Range) (i : Int), l = pre ++ suf → i = (pre.length : Int) → f_pluviallaw14_To.l0 l pre i = some l := by
  intro suf
  induction suf with
  | nil => intro pre i h1 hi; rw [f_pluviallaw14_To.l0, if_neg (by rw [h1]; simp [hi]), h1, List.append_nil]
  | cons b suf ih =>
    intro pre i h1 hi
    have hlen : l.length = pre.length + (suf.length + 1) := by rw [h1]; simp
    rw [f_pluviallaw14_To.l0, if_pos (by simp; omega), at_mid h1 hi, sb, chkB (by simp; omega), wrap64 (by omega) (by omega)]
    exact ih (pre ++ [b]) (i + 1) (by simp [h1]) (by simp; omega)
theorem to_eq (l : List Ttomb_Range) (hl : l.length < 1000000000) : f_pluviallaw14_To.f l = some l := by
  unfold f_pluviallaw14_To.f; rw [to_l0 l hl l [] 0 rfl rfl, sb]
end Go.Proofs.Yteogljahemehkaa.PvGC1
set_option linter.unusedVariables false
set_option linter.unusedSimpArgs false
namespace Go.Proofs.Yteogljahemehkaa.PvGC1
open Go Go.Pv Go.Pv.GS
theorem refRight (r : Ttomb_Range) : f_pluvialref14_Right.f r = some (decide (RightR r)) := by
  unfold f_pluvialref14_Right.f
  by_cases h1 : 0 ≤ r.f0
  · by_cases h2 : r.f0 ≤ r.f1 <;> simp [h1, h2, RightR]
  · simp [h1, RightR]
theorem apart_l0 (l : List Ttomb_Range) (hl : l.length < 1000000000) (h : Apart l) : ∀ (suf pre : List Ttomb_Range) (i : Int), l = pre ++ suf → i = (pre.length : Int) → f_pluviallaw14_apart.l0 l i = some (.inr ()) := by
  intro suf
  induction suf with
  | nil => intro pre i h1 hi; rw [f_pluviallaw14_apart.l0, if_neg (by rw [h1]; simp [hi])]
  | cons b suf ih =>
    intro pre i h1 hi
    have hlen : l.length = pre.length + (suf.length + 1) := by rw [h1]; simp
    have hb : RightR b := h.right b (by rw [h1]; simp)
    rw [f_pluviallaw14_apart.l0, if_pos (by simp; omega), at_mid h1 hi, sb, refRight, sb, if_neg (by rw [decide_eq_true hb]; simp), wrap64 (n := i + 1) (by omega) (by omega)]
    have next := ih (pre ++ [b]) (i + 1) (by simp [h1]) (by simp; omega)
    rcases List.eq_nil_or_concat pre with rfl | ⟨p', p, rfl⟩
    · rw [if_neg (by simp [hi]), sb, if_neg (by simp)]; exact next
    · have hp := List.pairwise_append.1 (h1 ▸ h.gap)
      have hpb : p.f1 + 1 < b.f0 := hp.2.2 p (by simp) b (by simp)
      have hpr : RightR p := h.right p (by rw [h1]; simp)
      simp only [List.concat_eq_append, List.length_append, List.length_singleton] at hi hlen
      rw [if_pos (by simp; omega), wrap64 (n := i - 1) (by omega) (by omega), at_mid (pre := p') (suf := b :: suf) (x := p) (by rw [h1]; simp) (by omega), sb, wrap64 (n := p.f1 + 1) (by omega) (by omega), sb, if_neg (by simp; omega)]
      exact next
theorem apart_true (l : List Ttomb_Range) (hl : l.length < 1000000000) (h : Apart l) : f_pluviallaw14_apart.f l = some true := by
  unfold f_pluviallaw14_apart.f; rw [apart_l0 l hl h l [] 0 rfl rfl, sb]
end Go.Proofs.Yteogljahemehkaa.PvGC1
