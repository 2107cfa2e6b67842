import Derived.Test.YtfkppdcfgmgllaaPxPlanBelows12
set_option linter.unusedVariables false
namespace Go.Proofs.Ytfkppdcfgmgllaa.PvGD4
open Go Go.Pv Go.Pv.GS
def iLt (a b : Int) : Bool := decide (a < b)
theorem iLt_swo : SWO iLt := ⟨fun a b h => by simp [iLt] at *; omega, fun a b c h1 h2 => by simp [iLt] at *; omega⟩
theorem iCmp : CmpB f_cmp_Less_int.f iLt := fun a b => ⟨_, by unfold f_cmp_Less_int.f f_cmp_isNaN_int.f; simp [sb]; rfl, by simp [iLt]⟩
theorem isort_inst : f_slices_Sort_int.f = oSortF.f f_cmp_Less_int.f := by kernel_rfl
theorem isort (l : List Int) (hl : l.length < 1000000000) : ∃ r, f_slices_Sort_int.f l = some r ∧ r.Perm l ∧ r.Pairwise (fun a b => a ≤ b) := by
  obtain ⟨r, e, h1, h2⟩ := o_sortF iCmp iLt_swo l hl
  rw [isort_inst]
  exact ⟨r, e, h1, h2.imp (fun h => by simp [iLt] at h; exact h)⟩
end Go.Proofs.Ytfkppdcfgmgllaa.PvGD4
set_option linter.unusedVariables false
set_option linter.unusedSimpArgs false
namespace Go.Proofs.Ytfkppdcfgmgllaa.PvGD4
open Go Go.Pv Go.Pv.GS
theorem cmp64 (a b : Int) : f_cmp_Compare_int64.f a b = some (if a < b then -1 else if a > b then 1 else 0) := by
  unfold f_cmp_Compare_int64.f f_cmp_isNaN_int64.f
  by_cases h1 : a < b
  · simp [h1]
  · by_cases h2 : b < a
    · simp [h1, h2]
    · simp [h1, h2]
theorem cmpI (a b : Int) : f_cmp_Compare_int.f a b = some (if a < b then -1 else if a > b then 1 else 0) := by
  unfold f_cmp_Compare_int.f f_cmp_isNaN_int.f
  by_cases h1 : a < b
  · simp [h1]
  · by_cases h2 : b < a
    · simp [h1, h2]
    · simp [h1, h2]
theorem or2p (a b : Int) : f_cmp_Or_int.f [a, b] = some (if a ≠ 0 then a else b) := by
  have w1 : IntKind.i64.wrap ((0 : Int) + 1) = 1 := by decide
  have w2 : IntKind.i64.wrap ((1 : Int) + 1) = 2 := by decide
  unfold f_cmp_Or_int.f
  rw [f_cmp_Or_int.l0, if_pos (by simp), show at? [a, b] 0 = some a from rfl, sb]
  by_cases ha : a = 0
  · subst ha
    rw [if_neg (by simp), w1, f_cmp_Or_int.l0, if_pos (by simp), show at? [0, b] 1 = some b from rfl, sb]
    by_cases hb : b = 0
    · subst hb
      rw [if_neg (by simp), w2, f_cmp_Or_int.l0, if_neg (by simp)]; rfl
    · rw [if_pos (by simpa using hb)]; simp [hb]
  · rw [if_pos (by simpa using ha)]; simp [ha]
def pLt (a b : Tplan_Item) : Bool := decide (a.f1.f0 < b.f1.f0) || (decide (a.f1.f0 = b.f1.f0) && decide (a.f0 < b.f0))
theorem pLt_swo : SWO pLt := ⟨fun a b h => by simp [pLt] at *; omega, fun a b c h1 h2 => by simp [pLt] at *; omega⟩
theorem pCmp : Cmp f_plan_sorted_1.f pLt := fun a b => by
  refine ⟨_, by unfold f_plan_sorted_1.f; rw [cmp64, sb, cmpI, sb, or2p, sb], ?_⟩
  simp only [pLt]
  by_cases h1 : a.f1.f0 < b.f1.f0
  · simp [h1]
  · by_cases h2 : b.f1.f0 < a.f1.f0
    · have h3 : ¬ a.f1.f0 = b.f1.f0 := by omega
      simp [h1, h2, h3]
    · have h3 : a.f1.f0 = b.f1.f0 := by omega
      by_cases h4 : a.f0 < b.f0
      · simp [h1, h2, h3, h4]
      · by_cases h5 : b.f0 < a.f0 <;> simp [h1, h2, h3, h4, h5]
theorem psort_inst : f_slices_SortFunc_plan_Item_plan_sorted_1.f = SortF.f f_plan_sorted_1.f := by kernel_rfl
def le17 (a b : It) : Prop := a.f2 < b.f2 ∨ (a.f2 = b.f2 ∧ a.f0 ≤ b.f0)
theorem sorted17 (l : List It) (hl : l.length < 1000000) : ∃ S : List It, f_plan_sorted.f (l.map toP) = some (S.map toP) ∧ S.Perm l ∧ S.Pairwise le17 := by
  unfold f_plan_sorted.f f_slices_Clone_plan_Item.f
  rw [chkB (by simp; omega), sb, psort_inst]
  obtain ⟨s, e, h1, h2⟩ := sortF pCmp pLt_swo (l.map toP) (by simp; omega)
  rw [e, sb]
  refine ⟨s.map ofP, by rw [List.map_map, show toP ∘ ofP = id from rfl, List.map_id], ?_, ?_⟩
  · have := h1.map ofP
    rw [List.map_map, show ofP ∘ toP = id from rfl, List.map_id] at this
    exact this
  · rw [List.pairwise_map]
    exact h2.imp (fun {a b} h => by
      simp only [pLt, Bool.or_eq_false_iff, decide_eq_false_iff_not, Bool.and_eq_false_iff] at h
      show a.f1.f0 < b.f1.f0 ∨ (a.f1.f0 = b.f1.f0 ∧ a.f0 ≤ b.f0)
      omega)
def inW (k low : Int) (x : It) : Bool := decide (low ≤ x.f2 ∧ x.f3 ≤ low + wd k)
theorem within_l0 (S : List It) (k low : Int) (hl : S.length < 1000000) (hlow : -1200000000000000 ≤ low ∧ low ≤ 1200000000000000) : ∀ (suf pre : List It) (o : List Int) (i : Int), S = pre ++ suf → i = (pre.length : Int) → o.length ≤ pre.length →
    f_plan_Within.l0 (S.map toP) k low o i = some (o ++ (suf.filter (inW k low)).map (·.f0)) := by
  intro suf
  have hw := wd_pos k
  induction suf with
  | nil => intro pre o i h1 hi ho; rw [f_plan_Within.l0, if_neg (by rw [h1]; simp [hi])]; simp
  | cons x suf ih =>
    intro pre o i h1 hi ho
    have hlen : S.length = pre.length + (suf.length + 1) := by rw [h1]; simp
    have hm : S.map toP = pre.map toP ++ toP x :: suf.map toP := by rw [h1]; simp
    have e1 : S = (pre ++ [x]) ++ suf := by simp [h1]
    rw [f_plan_Within.l0, if_pos (by simp; omega), at_mid hm (by simp [hi]), sb, show (toP x).f1.f0 = x.f2 from rfl, show (toP x).f1.f1 = x.f3 from rfl, show (toP x).f0 = x.f0 from rfl, bwidth, sb, bwd, wrap64 (n := low + wd k) (by omega) (by omega), wrap64 (n := i + 1) (by omega) (by omega)]
    have hb : ((if (decide (x.f2 ≥ low)) = true then (some (decide (x.f3 ≤ low + wd k))) else (some false)) : Option Bool) = some (inW k low x) := by
      unfold inW
      by_cases c : low ≤ x.f2 <;> simp [c]
    rw [hb, sb]
    cases c : inW k low x with
    | true =>
      rw [if_pos rfl, chkB (by simp; omega), sb, ih (pre ++ [x]) _ (i + 1) e1 (by simp; omega) (by simp; omega)]
      simp [c]
    | false =>
      rw [if_neg (by simp), sb, ih (pre ++ [x]) _ (i + 1) e1 (by simp; omega) (by simp; omega)]
      simp [c]
theorem within17 (S : List It) (k low : Int) (hl : S.length < 1000000) (hlow : -1200000000000000 ≤ low ∧ low ≤ 1200000000000000) : ∃ r, f_plan_Within.f (S.map toP) k low = some r ∧ r.Perm ((S.filter (inW k low)).map (·.f0)) ∧ r.Pairwise (· ≤ ·) := by
  unfold f_plan_Within.f
  have hf : (S.filter (inW k low)).length ≤ S.length := List.length_filter_le ..
  rw [within_l0 S k low hl hlow S [] [] 0 rfl rfl (by simp), sb, List.nil_append]
  obtain ⟨r, e, h1, h2⟩ := isort ((S.filter (inW k low)).map (·.f0)) (by rw [List.length_map]; omega)
  rw [e, sb]
  exact ⟨r, rfl, h1, h2⟩
def cand (S : List It) (k : Int) (y : It) : Prop := y.f1 ≤ k ∧ 1 < (S.filter (inW k (atL k y))).length
structure NextR (S : List It) (r : List Int) (k : Int) : Prop where
  k0 : 0 ≤ k
  k4 : k ≤ 4
  ex : ∃ A x B, S = A ++ x :: B ∧ cand S k x ∧ r.Perm ((S.filter (inW k (atL k x))).map (·.f0)) ∧ r.Pairwise (· ≤ ·) ∧ ∀ y ∈ A, ¬ cand S k y
  low : ∀ j, 0 ≤ j → j < k → ∀ y ∈ S, ¬ cand S j y
theorem next_l1 (S : List It) (k : Int) (hl : S.length < 1000000) (hR : ∀ x ∈ S, okI x) : ∀ (suf pre : List It) (i : Int), S = pre ++ suf → i = (pre.length : Int) → (∀ y ∈ pre, ¬ cand S k y) →
    (f_plan_Next.l1 (S.map toP) k i = some (.inr ()) ∧ ∀ y ∈ S, ¬ cand S k y) ∨ (∃ r, f_plan_Next.l1 (S.map toP) k i = some (.inl (⟨r, k⟩, true)) ∧ ∃ A x B, S = A ++ x :: B ∧ cand S k x ∧ r.Perm ((S.filter (inW k (atL k x))).map (·.f0)) ∧ r.Pairwise (· ≤ ·) ∧ ∀ y ∈ A, ¬ cand S k y) := by
  intro suf
  induction suf with
  | nil =>
    intro pre i h1 hi hn
    rw [List.append_nil] at h1
    subst h1
    rw [f_plan_Next.l1, if_neg (by simp [hi])]
    exact .inl ⟨rfl, hn⟩
  | cons x suf ih =>
    intro pre i h1 hi hn
    have hlen : S.length = pre.length + (suf.length + 1) := by rw [h1]; simp
    have hm : S.map toP = pre.map toP ++ toP x :: suf.map toP := by rw [h1]; simp
    have hx := hR x (by rw [h1]; simp)
    have hat := atL_rng (k := k) hx
    have h5 := hx.2.2.2.1
    obtain ⟨r, er, hr1, hr2⟩ := within17 S k (atL k x) hl (by omega)
    have hrl := hr1.length_eq
    rw [List.length_map] at hrl
    rw [f_plan_Next.l1, if_pos (by simp; omega), at_mid hm (by simp [hi]), sb, show (toP x).f1.f0 = x.f2 from rfl, show (toP x).f1.f2 = x.f1 from rfl, blow, sb, atL_low hx, er, sb, wrap64 (n := i + 1) (by omega) (by omega)]
    have hb : ((if (decide (x.f1 ≤ k)) = true then (some (decide ((r.length : Int) > (1 : Int)))) else (some false)) : Option Bool) = some (decide (x.f1 ≤ k ∧ 1 < r.length)) := by
      by_cases c : x.f1 ≤ k
      · rw [if_pos (by simpa using c)]; simp [c]; omega
      · simp [c]
    rw [hb, sb]
    by_cases c : x.f1 ≤ k ∧ 1 < r.length
    · rw [if_pos (decide_eq_true c)]
      exact .inr ⟨r, rfl, pre, x, suf, h1, ⟨c.1, by rw [← hrl]; exact c.2⟩, hr1, hr2, hn⟩
    · rw [if_neg (by rw [decide_eq_true_eq]; exact c)]
      exact ih (pre ++ [x]) (i + 1) (by simp [h1]) (by simp; omega) (fun y hy => by
        rcases List.mem_append.1 hy with hy | hy
        · exact hn y hy
        · simp at hy; subst hy; intro q; exact c ⟨q.1, by rw [hrl]; exact q.2⟩)
theorem next_l0 (S : List It) (hl : S.length < 1000000) (hR : ∀ x ∈ S, okI x) : ∀ (m : Nat) (k : Int), k + m = 5 → 0 ≤ k → (∀ j, 0 ≤ j → j < k → ∀ y ∈ S, ¬ cand S j y) →
    (f_plan_Next.l0 (S.map toP) k = some (.inr ()) ∧ ∀ j, 0 ≤ j → j ≤ 4 → ∀ y ∈ S, ¬ cand S j y) ∨ ∃ r k', f_plan_Next.l0 (S.map toP) k = some (.inl (⟨r, k'⟩, true)) ∧ NextR S r k' := by
  intro m
  induction m with
  | zero =>
    intro k hk h0 hn
    rw [f_plan_Next.l0, if_neg (by simp; omega)]
    exact .inl ⟨rfl, fun j g1 g2 => hn j g1 (by omega)⟩
  | succ m ih =>
    intro k hk h0 hn
    rw [f_plan_Next.l0, if_pos (by simp; omega)]
    rcases next_l1 S k hl hR S [] 0 rfl rfl (by simp) with ⟨e, h⟩ | ⟨r, e, h⟩
    · rw [e, sb, wrap64 (by omega) (by omega)]
      exact ih (k + 1) (by omega) (by omega) (fun j g1 g2 => by
        by_cases q : j = k
        · subst q; exact h
        · exact hn j g1 (by omega))
    · rw [e, sb]
      exact .inr ⟨r, k, rfl, h0, by omega, h, hn⟩
theorem next17 (l : List It) (hl : l.length < 1000000) (hR : ∀ x ∈ l, okI x) : ∃ S : List It, S.Perm l ∧ S.Pairwise le17 ∧
    ((f_plan_Next.f (l.map toP) = some (⟨[], 0⟩, false) ∧ ∀ j, 0 ≤ j → j ≤ 4 → ∀ y ∈ S, ¬ cand S j y) ∨ ∃ r k, f_plan_Next.f (l.map toP) = some (⟨r, k⟩, true) ∧ NextR S r k) := by
  unfold f_plan_Next.f
  obtain ⟨S, e, h1, h2⟩ := sorted17 l hl
  refine ⟨S, h1, h2, ?_⟩
  have hlen := h1.length_eq
  rw [e, sb]
  rcases next_l0 S (by omega) (fun x hx => hR x (h1.mem_iff.1 hx)) 5 0 (by omega) (by omega) (fun j g1 g2 => by omega) with ⟨g, h⟩ | ⟨r, k, g, h⟩
  · rw [g, sb]; exact .inl ⟨rfl, h⟩
  · rw [g, sb]; exact .inr ⟨r, k, rfl, h⟩
end Go.Proofs.Ytfkppdcfgmgllaa.PvGD4
set_option linter.unusedVariables false
set_option linter.unusedSimpArgs false
namespace Go.Proofs.Ytfkppdcfgmgllaa.PvGD4
open Go Go.Pv Go.Pv.GS
theorem below_l0 (l : List It) (mark : Int) (hl : l.length < 1000000) : ∀ (suf pre : List It) (o : List Int) (i : Int), l = pre ++ suf → i = (pre.length : Int) → o.length ≤ pre.length →
    f_plan_Below.l0 (l.map toP) mark o i = some (o ++ (suf.filter fun x => decide (x.f3 ≤ mark)).map (·.f0)) := by
  intro suf
  induction suf with
  | nil => intro pre o i h1 hi ho; rw [f_plan_Below.l0, if_neg (by rw [h1]; simp [hi])]; simp
  | cons x suf ih =>
    intro pre o i h1 hi ho
    have hlen : l.length = pre.length + (suf.length + 1) := by rw [h1]; simp
    have hm : l.map toP = pre.map toP ++ toP x :: suf.map toP := by rw [h1]; simp
    have e1 : l = (pre ++ [x]) ++ suf := by simp [h1]
    rw [f_plan_Below.l0, if_pos (by simp; omega), at_mid hm (by simp [hi]), sb, show (toP x).f1.f1 = x.f3 from rfl, show (toP x).f0 = x.f0 from rfl, wrap64 (n := i + 1) (by omega) (by omega)]
    by_cases c : x.f3 ≤ mark
    · rw [if_pos (by simpa using c), chkB (by simp; omega), sb, ih (pre ++ [x]) _ (i + 1) e1 (by simp; omega) (by simp; omega)]
      simp [c]
    · rw [if_neg (by simpa using c), sb, ih (pre ++ [x]) _ (i + 1) e1 (by simp; omega) (by simp; omega)]
      simp [c]
theorem below17 (l : List It) (mark : Int) (hl : l.length < 1000000) : ∃ r, f_plan_Below.f (l.map toP) mark = some r ∧ r.Perm ((l.filter fun x => decide (x.f3 ≤ mark)).map (·.f0)) ∧ r.Pairwise (· ≤ ·) := by
  unfold f_plan_Below.f
  have hf : (l.filter fun x => decide (x.f3 ≤ mark)).length ≤ l.length := List.length_filter_le ..
  rw [below_l0 l mark hl l [] [] 0 rfl rfl (by simp), sb, List.nil_append]
  obtain ⟨r, e, h1, h2⟩ := isort ((l.filter fun x => decide (x.f3 ≤ mark)).map (·.f0)) (by rw [List.length_map]; omega)
  rw [e, sb]
  exact ⟨r, rfl, h1, h2⟩
end Go.Proofs.Ytfkppdcfgmgllaa.PvGD4
set_option linter.unusedVariables false
set_option linter.unusedSimpArgs false
namespace Go.Proofs.Ytfkppdcfgmgllaa.PvGD4
open Go Go.Pv Go.Pv.GS
theorem mget_put {K V : Type} [DecidableEq K] (k k' : K) (v : V) : ∀ (l : List (K × V)), mget (mput l k v) k' = if k = k' then some v else mget l k'
  | [] => by simp [mput, mget]
  | p :: l => by
    rw [mput]
    by_cases c : p.1 = k
    · rw [if_pos c, mget, mget]
      by_cases d : k = k'
      · simp [d]
      · simp [d, c]
    · rw [if_neg c, mget, mget, mget_put k k' v l]
      by_cases d : k = k'
      · subst d; simp [c]
      · simp [d]
def gone (g : List (Int × Bool)) (k : Int) : Bool := (mget g k).getD false
theorem pb_l0 (a : List It) (r b : List Int) (hl : r.length < 1000000) : ∀ (suf pre : List Int) (g : List (Int × Bool)) (i : Int), r = pre ++ suf → i = (pre.length : Int) →
    ∃ g', f_pluviallaw17_PlanBelows.l0 a r b g i = some g' ∧ ∀ k, gone g' k = (gone g k || decide (k ∈ suf)) := by
  intro suf
  induction suf with
  | nil => intro pre g i h1 hi; rw [List.append_nil] at h1; subst h1; rw [f_pluviallaw17_PlanBelows.l0, if_neg (by simp [hi])]; exact ⟨g, rfl, fun k => by simp⟩
  | cons x suf ih =>
    intro pre g i h1 hi
    have hlen : (r.length : Int) = pre.length + (suf.length + 1) := by rw [h1]; simp
    rw [f_pluviallaw17_PlanBelows.l0, if_pos (by simp; omega), at_mid h1 hi, sb, wrap64 (n := i + 1) (by omega) (by omega)]
    obtain ⟨g', e, hg⟩ := ih (pre ++ [x]) (mput g x true) (i + 1) (by simp [h1]) (by simp; omega)
    refine ⟨g', e, fun k => ?_⟩
    rw [hg]
    unfold gone
    rw [mget_put]
    by_cases c : x = k
    · subst c; simp
    · have d : ¬ k = x := fun e => c e.symm
      simp [c, d]
theorem pb_l1 (a : List It) (r b : List Int) (g : List (Int × Bool)) (hl : b.length < 1000000) : ∀ (suf pre : List Int) (n i : Int), b = pre ++ suf → i = (pre.length : Int) → 0 ≤ n → n + suf.length < 1000000000 →
    f_pluviallaw17_PlanBelows.l1 a r b g n i = some (n + ((suf.filter (gone g)).length : Int)) := by
  intro suf
  induction suf with
  | nil => intro pre n i h1 hi _ _; rw [List.append_nil] at h1; subst h1; rw [f_pluviallaw17_PlanBelows.l1, if_neg (by simp [hi])]; simp
  | cons x suf ih =>
    intro pre n i h1 hi h0 hn
    have hlen : (b.length : Int) = pre.length + (suf.length + 1) := by rw [h1]; simp
    simp only [List.length_cons] at hn
    rw [f_pluviallaw17_PlanBelows.l1, if_pos (by simp; omega), at_mid h1 hi, sb, wrap64 (n := i + 1) (by omega) (by omega), show (mget g x).getD false = gone g x from rfl]
    by_cases c : gone g x = true
    · rw [if_pos c, sb, wrap64 (n := n + 1) (by omega) (by omega), ih (pre ++ [x]) _ (i + 1) (by simp [h1]) (by simp; omega) (by omega) (by omega), List.filter_cons, if_pos c]
      simp only [List.length_cons]
      congr 1; omega
    · rw [if_neg c, sb, ih (pre ++ [x]) _ (i + 1) (by simp [h1]) (by simp; omega) (by omega) (by omega), List.filter_cons, if_neg c]
theorem pb_l2 (a : List It) (r : List Int) (g : List (Int × Bool)) (k : Int) (hl : a.length < 1000000) : ∀ (suf pre : List It) (o : List It) (i : Int), a = pre ++ suf → i = (pre.length : Int) → o.length ≤ pre.length →
    f_pluviallaw17_PlanBelows.l2 a r g k o i = some (o ++ suf.filter fun x => !gone g x.f0) := by
  intro suf
  induction suf with
  | nil => intro pre o i h1 hi _; rw [List.append_nil] at h1; subst h1; rw [f_pluviallaw17_PlanBelows.l2, if_neg (by simp [hi])]; simp
  | cons x suf ih =>
    intro pre o i h1 hi ho
    have hlen : (a.length : Int) = pre.length + (suf.length + 1) := by rw [h1]; simp
    rw [f_pluviallaw17_PlanBelows.l2, if_pos (by simp; omega), at_mid h1 hi, sb, wrap64 (n := i + 1) (by omega) (by omega), show (mget g x.f0).getD false = gone g x.f0 from rfl]
    by_cases c : (!gone g x.f0) = true
    · rw [if_pos c, chkB (by simp; omega), sb, ih (pre ++ [x]) _ (i + 1) (by simp [h1]) (by simp; omega) (by simp; omega), List.filter_cons, if_pos c]
      simp
    · rw [if_neg c, sb, ih (pre ++ [x]) _ (i + 1) (by simp [h1]) (by simp; omega) (by simp; omega), List.filter_cons, if_neg c]
theorem pb_l3 (a : List It) (r : List Int) (s : Tplan_Step × Bool) (g : List (Int × Bool)) (k : Int) (left : List It) (hl : s.1.f0.length < 1000000) (hs : ∀ n ∈ s.1.f0, gone g n = false) : ∀ (suf pre : List Int) (i : Int), s.1.f0 = pre ++ suf → i = (pre.length : Int) →
    f_pluviallaw17_PlanBelows.l3 a r s g k left i = some (.inr ()) := by
  intro suf
  induction suf with
  | nil => intro pre i h1 hi; rw [List.append_nil] at h1; rw [f_pluviallaw17_PlanBelows.l3, if_neg (by rw [h1]; simp [hi])]
  | cons x suf ih =>
    intro pre i h1 hi
    have hlen : (s.1.f0.length : Int) = pre.length + (suf.length + 1) := by rw [h1]; simp
    have hx := hs x (by rw [h1]; simp)
    rw [f_pluviallaw17_PlanBelows.l3, if_pos (by simp; omega), at_mid h1 hi, sb, wrap64 (n := i + 1) (by omega) (by omega), if_neg (by unfold gone at hx; rw [hx]; simp)]
    exact ih (pre ++ [x]) (i + 1) (by simp [h1]) (by simp; omega)
theorem planBelows_R (l : List It) (mark more : Int) (hl : l.length ≤ maxLen ∧ ∀ y ∈ l, Rpluvialref17_Item y) (h2 : I64 mark) (h3 : I64 more) : f_pluviallaw17_PlanBelows.f l mark more = some true := by
  unfold f_pluviallaw17_PlanBelows.f
  by_cases g1 : 40 < l.length
  · rw [if_pos (by simp; omega), sb, if_pos rfl, awake17, sb]
  rw [if_neg (by simp; omega)]
  rcases right17 l (by omega) (fun x hx => (hl.2 x hx).r2) with ⟨hR, e⟩ | ⟨hR, e⟩
  case inr => rw [e, sb, if_pos (show (!false) = true from rfl), sb, if_pos rfl, awake17, sb]
  rw [e, sb, if_neg (by simp), awake17]
  by_cases c1 : more < 0
  · rw [if_pos (by simpa using c1), sb, if_pos rfl, sb]
  rw [if_neg (by simpa using c1)]
  by_cases c2 : more > 1099511627776
  · rw [if_pos (by simpa using c2), sb, if_pos rfl, sb]
  rw [if_neg (by simpa using c2)]
  by_cases c3 : mark > 2199023255552
  · rw [if_pos (by simpa using c3), sb, if_pos rfl, sb]
  rw [if_neg (by simpa using c3), sb]
  by_cases c4 : mark < -2199023255552
  · rw [if_pos (by simpa using c4), sb]
  rw [if_neg (by simpa using c4), to17 l (by omega), sb]
  obtain ⟨r1, e1, p1, _⟩ := below17 l mark (by omega)
  obtain ⟨r2, e2, p2, _⟩ := below17 l (mark + more) (by omega)
  rw [e1, sb, sb, wrap64 (n := mark + more) (by omega) (by omega), e2, sb]
  have n1 : r1.length ≤ l.length := by rw [p1.length_eq, List.length_map]; exact List.length_filter_le _ _
  have n2 : r2.length ≤ l.length := by rw [p2.length_eq, List.length_map]; exact List.length_filter_le _ _
  obtain ⟨g, eg, hg⟩ := pb_l0 l r1 r2 (by omega) r1 [] [] 0 rfl rfl
  have hg' : ∀ k, gone g k = decide (k ∈ r1) := fun k => by rw [hg]; simp [gone, mget]
  have hid : ∀ x ∈ l, ∀ y ∈ l, x.f0 = y.f0 → x = y := by
    have hp := hR.2
    intro x hx y hy hxy
    obtain ⟨i, hi, rfl⟩ := List.mem_iff_getElem.1 hx
    obtain ⟨j, hj, rfl⟩ := List.mem_iff_getElem.1 hy
    rcases Nat.lt_trichotomy i j with h | h | h
    · exact absurd hxy (List.pairwise_iff_getElem.1 hp i j hi hj h)
    · subst h; rfl
    · exact absurd hxy.symm (List.pairwise_iff_getElem.1 hp j i hj hi h)
  have hgx : ∀ x ∈ l, gone g x.f0 = decide (x.f3 ≤ mark) := fun x hx => by
    rw [hg']
    refine decide_eq_decide.2 ⟨fun h => ?_, fun h => ?_⟩
    · have := p1.mem_iff.1 h
      obtain ⟨y, hy, hyx⟩ := List.mem_map.1 this
      obtain ⟨hyl, hym⟩ := List.mem_filter.1 hy
      rw [hid x hx y hyl hyx.symm]; simpa using hym
    · exact p1.mem_iff.2 (List.mem_map.2 ⟨x, List.mem_filter.2 ⟨hx, by simpa using h⟩, rfl⟩)
  have hleft : (l.filter fun x => !gone g x.f0) = l.filter fun x => !decide (x.f3 ≤ mark) := List.filter_congr (fun x hx => by rw [hgx x hx])
  have hcount : (r2.filter (gone g)).length = r1.length := by
    rw [(p2.filter (gone g)).length_eq, List.filter_map, List.length_map, List.filter_filter, p1.length_eq, List.length_map]
    congr 1
    refine List.filter_congr (fun x hx => ?_)
    simp only [Function.comp]
    rw [hgx x hx]
    by_cases c : x.f3 ≤ mark
    · have : x.f3 ≤ mark + more := by omega
      simp [c, this]
    · simp [c]
  have hlen : (l.filter fun x => !decide (x.f3 ≤ mark)).length + (l.filter fun x => decide (x.f3 ≤ mark)).length = l.length := by
    have : ∀ m : List It, (m.filter fun x => !decide (x.f3 ≤ mark)).length + (m.filter fun x => decide (x.f3 ≤ mark)).length = m.length := by
      intro m
      induction m with
      | nil => rfl
      | cons y m ih =>
        by_cases c : y.f3 ≤ mark
        · simp [c] at ih ⊢; omega
        · simp [c] at ih ⊢; omega
    exact this l
  rw [eg, sb, pb_l1 l r1 r2 g (by omega) r2 [] 0 0 rfl rfl (by omega) (by omega), sb, pb_l2 l r1 g _ (by omega) l [] [] 0 rfl rfl (by simp), sb, List.nil_append, hleft]
  have hlf : (l.filter fun x => !decide (x.f3 ≤ mark)).length ≤ l.length := List.length_filter_le _ _
  rw [to17 _ (by omega), sb]
  obtain ⟨S, hS, _, hn⟩ := next17 (l.filter fun x => !decide (x.f3 ≤ mark)) (by omega) (fun x hx => hR.1 x (List.mem_filter.1 hx).1)
  have fin : ∀ s : Tplan_Step × Bool, f_plan_Next.f ((l.filter fun x => !decide (x.f3 ≤ mark)).map toP) = some s → s.1.f0.length < 1000000 → (∀ n ∈ s.1.f0, gone g n = false) → ((f_plan_Next.f ((l.filter fun x => !decide (x.f3 ≤ mark)).map toP)) >>= fun t4255 => (f_pluviallaw17_PlanBelows.l3 l r1 t4255 g (0 + ((r2.filter (gone g)).length : Int)) (l.filter fun x => !decide (x.f3 ≤ mark)) 0) >>= fun (oo : Bool ⊕ Unit) => match oo with
      | .inl rr => (some rr)
      | .inr _ => ((((some true : Option Bool) >>= fun t4278 => if t4278 = true then (if ((0 + ((r2.filter (gone g)).length : Int)) == (r1.length : Int)) = true then (some ((IntKind.i64.wrap (((l.filter fun x => !decide (x.f3 ≤ mark)).length : Int) + (r1.length : Int))) == (l.length : Int))) else (some false)) else (some false)) : Option (Bool)) >>= fun x4282 => some x4282)) = some true := by
    intro s es hsl hs
    rw [es, sb, pb_l3 l r1 s g _ _ hsl hs s.1.f0 [] 0 rfl rfl, sb]
    dsimp only
    have hr1 := p1.length_eq
    rw [List.length_map] at hr1
    rw [sb, if_pos rfl, hcount, if_pos (by simp), wrap64 (by omega) (by omega), sb]
    simp; omega
  rcases hn with ⟨en, _⟩ | ⟨r, k, en, hr⟩
  · exact fin _ en (by simp) (by simp)
  · obtain ⟨A, x, B, hSx, _, hp, _, _⟩ := hr.ex
    refine fin _ en ?_ (fun n hn => ?_)
    · have h1 := hp.length_eq
      have h2 : (S.filter (inW k (atL k x))).length ≤ S.length := List.length_filter_le _ _
      have h3 := hS.length_eq
      rw [List.length_map] at h1
      simp only; omega
    · have := hp.mem_iff.1 hn
      obtain ⟨y, hy, rfl⟩ := List.mem_map.1 this
      have hyl := hS.mem_iff.1 (List.mem_filter.1 hy).1
      obtain ⟨hyl, hym⟩ := List.mem_filter.1 hyl
      rw [hgx y hyl]
      simpa using hym
end Go.Proofs.Ytfkppdcfgmgllaa.PvGD4
