import Derived.Test.YticdbkmekkbiiaaPlNumB3
set_option linter.unusedVariables false
set_option linter.unusedSimpArgs false
/-! Buckets: what tidy makes of them. -/
namespace Go.Proofs.Yticdbkmekkbiiaa.PvGB3
open Go Go.Pv Go.Pv.GS

/-- How much a list has of an index. -/
def tot : List TBucket → Int → Int
  | [], _ => 0
  | b :: l, i => (if b.f0 = i then b.f1 else 0) + tot l i

abbrev Nn (l : List TBucket) : Prop := ∀ b ∈ l, 0 ≤ b.f1

theorem tot_append (a b : List TBucket) (i : Int) : tot (a ++ b) i = tot a i + tot b i := by
  induction a with
  | nil => simp [tot]
  | cons x a ih => simp only [List.cons_append, tot, ih]; omega
theorem tot_one (b : TBucket) (i : Int) : tot [b] i = if b.f0 = i then b.f1 else 0 := by simp [tot]
theorem tot_nonneg {l : List TBucket} (h : Nn l) (i : Int) : 0 ≤ tot l i := by
  induction l with
  | nil => simp [tot]
  | cons b l ih =>
    have := h b (by simp)
    have := ih (fun y hy => h y (by simp [hy]))
    rw [tot]; split <;> omega
theorem tot_zero {l : List TBucket} {i : Int} (h : ∀ b ∈ l, b.f0 ≠ i) : tot l i = 0 := by
  induction l with
  | nil => rfl
  | cons b l ih => rw [tot, if_neg (h b (by simp)), ih (fun y hy => h y (by simp [hy]))]; rfl
theorem tot_mem {l : List TBucket} (h : Nn l) {b : TBucket} (hb : b ∈ l) : b.f1 ≤ tot l b.f0 := by
  induction l with
  | nil => simp at hb
  | cons y l ih =>
    have h1 := h y (by simp)
    have h2 := tot_nonneg (l := l) (fun z hz => h z (by simp [hz])) b.f0
    rw [tot]
    rcases List.mem_cons.1 hb with rfl | hb
    · simp; omega
    · have := ih (fun z hz => h z (by simp [hz])) hb
      split <;> omega
theorem tot_perm {a b : List TBucket} (h : a.Perm b) (i : Int) : tot a i = tot b i := by
  induction h with
  | nil => rfl
  | cons x _ ih => simp only [tot, ih]
  | swap x y l => simp only [tot]; omega
  | trans _ _ h1 h2 => exact h1.trans h2

/-- Rising indices, one each, none empty. -/
structure Canon (l : List TBucket) : Prop where
  up : l.Pairwise (fun a b => a.f0 < b.f0)
  pos : ∀ b ∈ l, 0 < b.f1

theorem Canon.nn {l : List TBucket} (h : Canon l) : Nn l := fun b hb => Int.le_of_lt (h.pos b hb)
theorem Canon.tail {x : TBucket} {l : List TBucket} (h : Canon (x :: l)) : Canon l := ⟨(List.pairwise_cons.1 h.up).2, fun b hb => h.pos b (by simp [hb])⟩
theorem Canon.tot_head {x : TBucket} {l : List TBucket} (h : Canon (x :: l)) : tot (x :: l) x.f0 = x.f1 := by
  rw [tot, tot_zero (fun b hb => by have := (List.pairwise_cons.1 h.up).1 b hb; omega)]; simp
theorem Canon.tot_low {x : TBucket} {l : List TBucket} (h : Canon (x :: l)) {i : Int} (hi : i < x.f0) : tot (x :: l) i = 0 :=
  tot_zero (fun b hb => by
    rcases List.mem_cons.1 hb with rfl | hb
    · omega
    · have := (List.pairwise_cons.1 h.up).1 b hb; omega)
theorem Canon.tot_of {l : List TBucket} (h : Canon l) {b : TBucket} (hb : b ∈ l) : tot l b.f0 = b.f1 := by
  induction l with
  | nil => simp at hb
  | cons x l ih =>
    rcases List.mem_cons.1 hb with rfl | hb
    · exact h.tot_head
    · have := (List.pairwise_cons.1 h.up).1 b hb
      rw [tot, if_neg (by omega), ih h.tail hb]; omega

theorem canon_unique : ∀ {a b : List TBucket}, Canon a → Canon b → (∀ i, tot a i = tot b i) → a = b
  | [], [], _, _, _ => rfl
  | [], y :: b, _, hb, h => by
    have h1 := h y.f0
    rw [hb.tot_head] at h1
    have := hb.pos y (by simp)
    simp [tot] at h1; omega
  | x :: a, [], ha, _, h => by
    have h1 := h x.f0
    rw [ha.tot_head] at h1
    have := ha.pos x (by simp)
    simp [tot] at h1; omega
  | x :: a, y :: b, ha, hb, h => by
    have hx := ha.pos x (by simp)
    have hy := hb.pos y (by simp)
    have e0 : x.f0 = y.f0 := by
      by_cases h1 : x.f0 < y.f0
      · have := h x.f0; rw [ha.tot_head, hb.tot_low h1] at this; omega
      · by_cases h2 : y.f0 < x.f0
        · have := h y.f0; rw [hb.tot_head, ha.tot_low h2] at this; omega
        · omega
    have e1 : x.f1 = y.f1 := by
      have := h x.f0
      rw [ha.tot_head, e0, hb.tot_head] at this; exact this
    have e : x = y := by cases x; cases y; simp_all
    subst e
    rw [canon_unique ha.tail hb.tail (fun i => by have := h i; simp only [tot] at this; omega)]

def bLt (a b : TBucket) : Bool := decide (a.f0 < b.f0)
theorem bLt_swo : SWO bLt := ⟨fun a b h => by simp [bLt] at *; omega, fun a b c h1 h2 => by simp [bLt] at *; omega⟩
theorem bCmp : Cmp f_hist_tidy_1.f bLt := fun a b => by
  refine ⟨_, by unfold f_hist_tidy_1.f; rw [compare_int, sb], ?_⟩
  simp only [bLt]
  by_cases h1 : a.f0 < b.f0
  · simp [h1]
  · by_cases h2 : b.f0 < a.f0 <;> simp [h1, h2]

theorem sort_inst : f_slices_SortStableFunc_api_Bucket_hist_tidy_1.f = GS.SortStable.f f_hist_tidy_1.f := by kernel_rfl
theorem clone_inst (l : List TBucket) (h : l.length < 1000000000) : f_slices_Clone_api_Bucket.f l = some l := by
  unfold f_slices_Clone_api_Bucket.f
  rw [chkB (by simp; omega)]

theorem snoc_at {α : Type} (l : List α) (x : α) (h : l.length < 1000000000000) : at? (l ++ [x]) (IntKind.i64.wrap (((l ++ [x]).length : Int) - 1)) = some x := by
  rw [List.length_append, List.length_singleton, wrap64 (by omega) (by omega)]
  exact at_mid (pre := l) (suf := []) rfl (by omega)
theorem snoc_set {α : Type} (l : List α) (x y : α) (h : l.length < 1000000000000) : (l ++ [x]).set (Int.toNat (IntKind.i64.wrap (((l ++ [x]).length : Int) - 1))) y = l ++ [y] := by
  rw [List.length_append, List.length_singleton, wrap64 (by omega) (by omega), show (((l.length + 1 : Nat) : Int) - 1).toNat = l.length by omega]
  simp

/-- Where the loop of tidy is: what it has made of what it has seen. -/
structure TidyI (pre out : List TBucket) : Prop where
  canon : Canon out
  seen : ∀ o ∈ out, ∃ p ∈ pre, p.f0 = o.f0
  tots : ∀ i, tot out i = tot pre i
  u64 : ∀ o ∈ out, U64 o.f1
  len : out.length ≤ pre.length

theorem tidy_l0 (l : List TBucket) (hl : l.length < 1000000000) (hU : ∀ b ∈ l, U64 b.f1) (hs : l.Pairwise (fun a b => a.f0 ≤ b.f0)) : ∀ (suf pre out : List TBucket) (i : Int), l = pre ++ suf → i = (pre.length : Int) → TidyI pre out →
    (∃ out', f_hist_tidy.l0 l out i = some (.inr out') ∧ TidyI l out') ∨ (f_hist_tidy.l0 l out i = some (.inl ([], 5)) ∧ ∃ i, 18446744073709551616 ≤ tot l i) := by
  intro suf
  induction suf with
  | nil =>
    intro pre out i h1 hi hI
    rw [List.append_nil] at h1
    subst h1
    rw [f_hist_tidy.l0, if_neg (by simp [hi])]
    exact .inl ⟨out, rfl, hI⟩
  | cons b suf ih =>
    intro pre out i h1 hi hI
    have hb := hU b (by rw [h1]; simp)
    have hlen : l.length = pre.length + (suf.length + 1) := by rw [h1]; simp
    have holen : out.length ≤ pre.length := hI.len
    have hle : ∀ p ∈ pre, p.f0 ≤ b.f0 := fun p hp => by
      rw [h1] at hs; exact (List.pairwise_append.1 hs).2.2 p hp b (by simp)
    have e1 : l = (pre ++ [b]) ++ suf := by simp [h1]
    have e2 : i + 1 = ((pre ++ [b]).length : Int) := by simp [hi]
    rw [f_hist_tidy.l0, if_pos (by rw [h1]; simp [hi]; omega), at_mid h1 hi, sb, wrap64 (n := i + 1) (by omega) (by omega)]
    by_cases h0 : b.f1 = 0
    · rw [if_pos (by simpa using h0), sb]
      simp only []
      exact ih (pre ++ [b]) out (i + 1) e1 e2 ⟨hI.canon, fun o ho => let ⟨p, hp, e⟩ := hI.seen o ho; ⟨p, by simp [hp], e⟩, fun i => by rw [hI.tots, tot_append, tot_one, h0]; simp, hI.u64, by simp; omega⟩
    rw [if_neg (by simpa using h0)]
    have hnew : (∀ o ∈ out, o.f0 < b.f0) → TidyI (pre ++ [b]) (out ++ [b]) := fun hlt =>
      ⟨⟨List.pairwise_append.2 ⟨hI.canon.up, List.pairwise_singleton _ _, fun o ho y hy => by simp at hy; subst hy; exact hlt o ho⟩, fun o ho => by
        rcases List.mem_append.1 ho with ho | ho
        · exact hI.canon.pos o ho
        · simp at ho; subst ho; omega⟩,
       fun o ho => by
        rcases List.mem_append.1 ho with ho | ho
        · obtain ⟨p, hp, e⟩ := hI.seen o ho; exact ⟨p, by simp [hp], e⟩
        · simp at ho; subst ho; exact ⟨o, by simp, rfl⟩,
       fun i => by rw [tot_append, tot_append, hI.tots],
       fun o ho => by
        rcases List.mem_append.1 ho with ho | ho
        · exact hI.u64 o ho
        · simp at ho; subst ho; exact hb,
       by simp; omega⟩
    have happ : ∀ (hlt : ∀ o ∈ out, o.f0 < b.f0), (∃ out', f_hist_tidy.l0 l (out ++ [b]) (i + 1) = some (.inr out') ∧ TidyI l out') ∨ (f_hist_tidy.l0 l (out ++ [b]) (i + 1) = some (.inl ([], 5)) ∧ ∃ i, 18446744073709551616 ≤ tot l i) := fun hlt =>
      ih (pre ++ [b]) (out ++ [b]) (i + 1) e1 e2 (hnew hlt)
    have hroom : (out.length + [b].length) * 16 ≤ 140737488355328 := by simp; omega
    rcases List.eq_nil_or_concat out with rfl | ⟨o', o, rfl⟩
    · rw [if_neg (by simp), sb, if_neg (by simp), chkB hroom, sb]
      simp only []
      exact happ (by simp)
    simp only [List.concat_eq_append] at *
    have ho' : o'.length < 1000000000000 := by simp at holen; omega
    rw [if_pos (by simp), snoc_at _ _ ho', sb, sb]
    obtain ⟨p, hp, hpo⟩ := hI.seen o (by simp)
    have hob : o.f0 ≤ b.f0 := hpo ▸ hle p hp
    have hup := List.pairwise_append.1 hI.canon.up
    by_cases he : o.f0 = b.f0
    · rw [if_pos (by simpa using he), sb, num_add2 (hI.u64 o (by simp)) hb, sb]
      have ho1 := hI.u64 o (by simp)
      by_cases hov : o.f1 + b.f1 < 18446744073709551616
      · rw [if_pos hov, if_neg (by simp), sb, snoc_set _ _ _ ho']
        simp only [sb]
        refine ih (pre ++ [b]) (o' ++ [⟨o.f0, o.f1 + b.f1⟩]) (i + 1) e1 e2 ⟨⟨List.pairwise_append.2 ⟨hup.1, List.pairwise_singleton _ _, fun x hx y hy => by simp at hy; subst hy; exact hup.2.2 x hx o (by simp)⟩, fun x hx => ?_⟩, fun x hx => ?_, fun i => ?_, fun x hx => ?_, by simp at holen ⊢; omega⟩
        · rcases List.mem_append.1 hx with hx | hx
          · exact hI.canon.pos x (by simp [hx])
          · simp at hx; subst hx; have := hI.canon.pos o (by simp); simp; omega
        · rcases List.mem_append.1 hx with hx | hx
          · obtain ⟨p, hp, e⟩ := hI.seen x (by simp [hx]); exact ⟨p, by simp [hp], e⟩
          · simp at hx; subst hx; exact ⟨b, by simp, he.symm⟩
        · have := hI.tots i
          rw [tot_append, tot_one] at this ⊢
          rw [tot_append, tot_one, ← this]
          simp only
          rw [← he]
          split <;> omega
        · rcases List.mem_append.1 hx with hx | hx
          · exact hI.u64 x (by simp [hx])
          · simp at hx; subst hx; exact ⟨by simp; omega, hov⟩
      · rw [if_neg hov, if_pos (by simp), sb]
        simp only []
        refine .inr ⟨rfl, b.f0, ?_⟩
        have h3 := hI.tots b.f0
        rw [tot_append, tot_one, if_pos he] at h3
        have h4 := tot_nonneg (l := o') (fun x hx => hI.canon.nn x (by simp [hx])) b.f0
        have h5 := tot_nonneg (l := suf) (fun x hx => (hU x (by rw [h1]; simp [hx])).1) b.f0
        rw [h1, tot_append, tot, if_pos rfl]; omega
    · rw [if_neg (by simpa using he), chkB hroom, sb]
      simp only []
      refine happ (fun x hx => ?_)
      rcases List.mem_append.1 hx with hx | hx
      · have := hup.2.2 x hx o (by simp); omega
      · simp at hx; subst hx; omega

/-- What tidy makes: rising indices, one each, with all that the list has of each; or too much of one. -/
theorem tidy_spec (l : List TBucket) (hl : l.length < 100000000) (hU : ∀ b ∈ l, U64 b.f1) :
    (∃ out, f_hist_tidy.f l = some (out, 0) ∧ Canon out ∧ (∀ i, tot out i = tot l i) ∧ (∀ b ∈ out, U64 b.f1) ∧ (∀ b ∈ out, ∃ p ∈ l, p.f0 = b.f0) ∧ out.length ≤ l.length) ∨
    (f_hist_tidy.f l = some ([], 5) ∧ ∃ i, 18446744073709551616 ≤ tot l i) := by
  unfold f_hist_tidy.f
  rw [clone_inst l (by omega), sb, sort_inst, GS.sorts bCmp bLt_swo l (by omega), sb]
  have hp := S_perm (lt := bLt) l
  have hs : (GS.S bLt l).Pairwise (fun a b => a.f0 ≤ b.f0) := (S_sorted bLt_swo l).imp (fun {a b} h => by simp [bLt] at h; exact h)
  rcases tidy_l0 (GS.S bLt l) (by rw [S_len]; omega) (fun b hb => hU b (hp.mem_iff.1 hb)) hs (GS.S bLt l) [] [] 0 rfl rfl ⟨⟨List.Pairwise.nil, by simp⟩, by simp, fun _ => rfl, by simp, by simp⟩ with ⟨out, e, h⟩ | ⟨e, i, h⟩
  · rw [e]
    exact .inl ⟨out, rfl, h.canon, fun i => (h.tots i).trans (tot_perm hp i), h.u64, fun b hb => let ⟨p, hp', e⟩ := h.seen b hb; ⟨p, hp.mem_iff.1 hp', e⟩, by have := h.len; rw [S_len] at this; exact this⟩
  · rw [e]
    exact .inr ⟨rfl, i, by rw [← tot_perm hp i]; exact h⟩

theorem tidy_fits {l : List TBucket} {out : List TBucket} (hc : Canon out) (ht : ∀ i, tot out i = tot l i) (hu : ∀ b ∈ out, U64 b.f1) (i : Int) : tot l i < 18446744073709551616 := by
  rw [← ht]
  by_cases h : ∃ b ∈ out, b.f0 = i
  · obtain ⟨b, hb, rfl⟩ := h
    rw [hc.tot_of hb]; exact (hu b hb).2
  · rw [tot_zero (fun b hb e => h ⟨b, hb, e⟩)]; omega

/-- What tidy makes hangs on how much there is of each index alone. -/
theorem tidy_same (l l' : List TBucket) (hl : l.length < 100000000) (hl' : l'.length < 100000000) (hU : ∀ b ∈ l, U64 b.f1) (hU' : ∀ b ∈ l', U64 b.f1) (h : ∀ i, tot l i = tot l' i) : f_hist_tidy.f l = f_hist_tidy.f l' := by
  rcases tidy_spec l hl hU with ⟨o, e, h1, h2, h3, _⟩ | ⟨e, i, h1⟩ <;> rcases tidy_spec l' hl' hU' with ⟨o', e', h1', h2', h3', _⟩ | ⟨e', i', h1'⟩
  · rw [e, e', canon_unique h1 h1' (fun i => by rw [h2, h2', h])]
  · have := tidy_fits h1 h2 h3 i'; rw [h] at this; omega
  · have := tidy_fits h1' h2' h3' i; rw [← h] at this; omega
  · rw [e, e']

/-- What is tidy already stays. -/
theorem tidy_id (l : List TBucket) (hl : l.length < 100000000) (hU : ∀ b ∈ l, U64 b.f1) (hc : Canon l) : f_hist_tidy.f l = some (l, 0) := by
  rcases tidy_spec l hl hU with ⟨o, e, h1, h2, h3, _⟩ | ⟨e, i, h1⟩
  · rw [e, canon_unique h1 hc h2]
  · have := tidy_fits hc (fun _ => rfl) hU i; omega

end Go.Proofs.Yticdbkmekkbiiaa.PvGB3
