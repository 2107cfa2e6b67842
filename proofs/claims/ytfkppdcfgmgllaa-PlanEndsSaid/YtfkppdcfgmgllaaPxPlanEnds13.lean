import Derived.Test.YtfkppdcfgmgllaaPxPlanEnds12
set_option linter.unusedVariables false
namespace Go.Proofs.Ytfkppdcfgmgllaa.PvGD1
open Go Go.Pv Go.Pv.GS
def iLt (a b : Int) : Bool := decide (a < b)
theorem iLt_swo : SWO iLt := ⟨fun a b h => by simp [iLt] at *; omega, fun a b c h1 h2 => by simp [iLt] at *; omega⟩
theorem iCmp : CmpB f_cmp_Less_int.f iLt := fun a b => ⟨_, by unfold f_cmp_Less_int.f f_cmp_isNaN_int.f; simp [sb]; rfl, by simp [iLt]⟩
theorem isort_inst : f_slices_Sort_int.f = oSortF.f f_cmp_Less_int.f := by kernel_rfl
theorem isort (l : List Int) (hl : l.length < 1000000000) : ∃ r, f_slices_Sort_int.f l = some r ∧ r.Perm l ∧ r.Pairwise (fun a b => a ≤ b) := by
  obtain ⟨r, e, h1, h2⟩ := o_sortF iCmp iLt_swo l hl
  rw [isort_inst]
  exact ⟨r, e, h1, h2.imp (fun h => by simp [iLt] at h; exact h)⟩
end Go.Proofs.Ytfkppdcfgmgllaa.PvGD1
set_option linter.unusedVariables false
set_option linter.unusedSimpArgs false
namespace Go.Proofs.Ytfkppdcfgmgllaa.PvGD1
open Go Go.Pv Go.Pv.GS
theorem cmp64 (a b : Int) : f_cmp_Compare_int64.f a b = some (if a < b then -1 else if a > b then 1 else 0) := by
  unfold f_cmp_Compare_int64.f f_cmp_isNaN_int64.f
  by_cases h1 : a < b
  · simp [h1]
  · by_cases h2 : b < a
    · simp [h1, h2]
    · simp [h1, h2]
theorem cmpI (a b : Int) : f_cmp_Compare_int.f a b = some (if a < b then -1 else if a > b then 1 else 0) := by
  unfold f_cmp_Compare_int.f f_cmp_isNaN_int.f
  by_cases h1 : a < b
  · simp [h1]
  · by_cases h2 : b < a
    · simp [h1, h2]
    · simp [h1, h2]
theorem or2p (a b : Int) : f_cmp_Or_int.f [a, b] = some (if a ≠ 0 then a else b) := by
  have w1 : IntKind.i64.wrap ((0 : Int) + 1) = 1 := by decide
  have w2 : IntKind.i64.wrap ((1 : Int) + 1) = 2 := by decide
  unfold f_cmp_Or_int.f
  rw [f_cmp_Or_int.l0, if_pos (by simp), show at? [a, b] 0 = some a from rfl, sb]
  by_cases ha : a = 0
  · subst ha
    rw [if_neg (by simp), w1, f_cmp_Or_int.l0, if_pos (by simp), show at? [0, b] 1 = some b from rfl, sb]
    by_cases hb : b = 0
    · subst hb
      rw [if_neg (by simp), w2, f_cmp_Or_int.l0, if_neg (by simp)]; rfl
    · rw [if_pos (by simpa using hb)]; simp [hb]
  · rw [if_pos (by simpa using ha)]; simp [ha]
def pLt (a b : Tplan_Item) : Bool := decide (a.f1.f0 < b.f1.f0) || (decide (a.f1.f0 = b.f1.f0) && decide (a.f0 < b.f0))
theorem pLt_swo : SWO pLt := ⟨fun a b h => by simp [pLt] at *; omega, fun a b c h1 h2 => by simp [pLt] at *; omega⟩
theorem pCmp : Cmp f_plan_sorted_1.f pLt := fun a b => by
  refine ⟨_, by unfold f_plan_sorted_1.f; rw [cmp64, sb, cmpI, sb, or2p, sb], ?_⟩
  simp only [pLt]
  by_cases h1 : a.f1.f0 < b.f1.f0
  · simp [h1]
  · by_cases h2 : b.f1.f0 < a.f1.f0
    · have h3 : ¬ a.f1.f0 = b.f1.f0 := by omega
      simp [h1, h2, h3]
    · have h3 : a.f1.f0 = b.f1.f0 := by omega
      by_cases h4 : a.f0 < b.f0
      · simp [h1, h2, h3, h4]
      · by_cases h5 : b.f0 < a.f0 <;> simp [h1, h2, h3, h4, h5]
theorem psort_inst : f_slices_SortFunc_plan_Item_plan_sorted_1.f = SortF.f f_plan_sorted_1.f := by kernel_rfl
def le17 (a b : It) : Prop := a.f2 < b.f2 ∨ (a.f2 = b.f2 ∧ a.f0 ≤ b.f0)
theorem sorted17 (l : List It) (hl : l.length < 1000000) : ∃ S : List It, f_plan_sorted.f (l.map toP) = some (S.map toP) ∧ S.Perm l ∧ S.Pairwise le17 := by
  unfold f_plan_sorted.f f_slices_Clone_plan_Item.f
  rw [chkB (by simp; omega), sb, psort_inst]
  obtain ⟨s, e, h1, h2⟩ := sortF pCmp pLt_swo (l.map toP) (by simp; omega)
  rw [e, sb]
  refine ⟨s.map ofP, by rw [List.map_map, show toP ∘ ofP = id from rfl, List.map_id], ?_, ?_⟩
  · have := h1.map ofP
    rw [List.map_map, show ofP ∘ toP = id from rfl, List.map_id] at this
    exact this
  · rw [List.pairwise_map]
    exact h2.imp (fun {a b} h => by
      simp only [pLt, Bool.or_eq_false_iff, decide_eq_false_iff_not, Bool.and_eq_false_iff] at h
      show a.f1.f0 < b.f1.f0 ∨ (a.f1.f0 = b.f1.f0 ∧ a.f0 ≤ b.f0)
      omega)
def inW (k low : Int) (x : It) : Bool := decide (low ≤ x.f2 ∧ x.f3 ≤ low + wd k)
theorem within_l0 (S : List It) (k low : Int) (hl : S.length < 1000000) (hlow : -1200000000000000 ≤ low ∧ low ≤ 1200000000000000) : ∀ (suf pre : List It) (o : List Int) (i : Int), S = pre ++ suf → i = (pre.length : Int) → o.length ≤ pre.length →
    f_plan_Within.l0 (S.map toP) k low o i = some (o ++ (suf.filter (inW k low)).map (·.f0)) := by
  intro suf
  have hw := wd_pos k
  induction suf with
  | nil => intro pre o i h1 hi ho; rw [f_plan_Within.l0, if_neg (by rw [h1]; simp [hi])]; simp
  | cons x suf ih =>
    intro pre o i h1 hi ho
    have hlen : S.length = pre.length + (suf.length + 1) := by rw [h1]; simp
    have hm : S.map toP = pre.map toP ++ toP x :: suf.map toP := by rw [h1]; simp
    have e1 : S = (pre ++ [x]) ++ suf := by simp [h1]
    rw [f_plan_Within.l0, if_pos (by simp; omega), at_mid hm (by simp [hi]), sb, show (toP x).f1.f0 = x.f2 from rfl, show (toP x).f1.f1 = x.f3 from rfl, show (toP x).f0 = x.f0 from rfl, bwidth, sb, bwd, wrap64 (n := low + wd k) (by omega) (by omega), wrap64 (n := i + 1) (by omega) (by omega)]
    have hb : ((if (decide (x.f2 ≥ low)) = true then (some (decide (x.f3 ≤ low + wd k))) else (some false)) : Option Bool) = some (inW k low x) := by
      unfold inW
      by_cases c : low ≤ x.f2 <;> simp [c]
    rw [hb, sb]
    cases c : inW k low x with
    | true =>
      rw [if_pos rfl, chkB (by simp; omega), sb, ih (pre ++ [x]) _ (i + 1) e1 (by simp; omega) (by simp; omega)]
      simp [c]
    | false =>
      rw [if_neg (by simp), sb, ih (pre ++ [x]) _ (i + 1) e1 (by simp; omega) (by simp; omega)]
      simp [c]
theorem within17 (S : List It) (k low : Int) (hl : S.length < 1000000) (hlow : -1200000000000000 ≤ low ∧ low ≤ 1200000000000000) : ∃ r, f_plan_Within.f (S.map toP) k low = some r ∧ r.Perm ((S.filter (inW k low)).map (·.f0)) ∧ r.Pairwise (· ≤ ·) := by
  unfold f_plan_Within.f
  have hf : (S.filter (inW k low)).length ≤ S.length := List.length_filter_le ..
  rw [within_l0 S k low hl hlow S [] [] 0 rfl rfl (by simp), sb, List.nil_append]
  obtain ⟨r, e, h1, h2⟩ := isort ((S.filter (inW k low)).map (·.f0)) (by rw [List.length_map]; omega)
  rw [e, sb]
  exact ⟨r, rfl, h1, h2⟩
def cand (S : List It) (k : Int) (y : It) : Prop := y.f1 ≤ k ∧ 1 < (S.filter (inW k (atL k y))).length
structure NextR (S : List It) (r : List Int) (k : Int) : Prop where
  k0 : 0 ≤ k
  k4 : k ≤ 4
  ex : ∃ A x B, S = A ++ x :: B ∧ cand S k x ∧ r.Perm ((S.filter (inW k (atL k x))).map (·.f0)) ∧ r.Pairwise (· ≤ ·) ∧ ∀ y ∈ A, ¬ cand S k y
  low : ∀ j, 0 ≤ j → j < k → ∀ y ∈ S, ¬ cand S j y
theorem next_l1 (S : List It) (k : Int) (hl : S.length < 1000000) (hR : ∀ x ∈ S, okI x) : ∀ (suf pre : List It) (i : Int), S = pre ++ suf → i = (pre.length : Int) → (∀ y ∈ pre, ¬ cand S k y) →
    (f_plan_Next.l1 (S.map toP) k i = some (.inr ()) ∧ ∀ y ∈ S, ¬ cand S k y) ∨ (∃ r, f_plan_Next.l1 (S.map toP) k i = some (.inl (⟨r, k⟩, true)) ∧ ∃ A x B, S = A ++ x :: B ∧ cand S k x ∧ r.Perm ((S.filter (inW k (atL k x))).map (·.f0)) ∧ r.Pairwise (· ≤ ·) ∧ ∀ y ∈ A, ¬ cand S k y) := by
  intro suf
  induction suf with
  | nil =>
    intro pre i h1 hi hn
    rw [List.append_nil] at h1
    subst h1
    rw [f_plan_Next.l1, if_neg (by simp [hi])]
    exact .inl ⟨rfl, hn⟩
  | cons x suf ih =>
    intro pre i h1 hi hn
    have hlen : S.length = pre.length + (suf.length + 1) := by rw [h1]; simp
    have hm : S.map toP = pre.map toP ++ toP x :: suf.map toP := by rw [h1]; simp
    have hx := hR x (by rw [h1]; simp)
    have hat := atL_rng (k := k) hx
    have h5 := hx.2.2.2.1
    obtain ⟨r, er, hr1, hr2⟩ := within17 S k (atL k x) hl (by omega)
    have hrl := hr1.length_eq
    rw [List.length_map] at hrl
    rw [f_plan_Next.l1, if_pos (by simp; omega), at_mid hm (by simp [hi]), sb, show (toP x).f1.f0 = x.f2 from rfl, show (toP x).f1.f2 = x.f1 from rfl, blow, sb, atL_low hx, er, sb, wrap64 (n := i + 1) (by omega) (by omega)]
    have hb : ((if (decide (x.f1 ≤ k)) = true then (some (decide ((r.length : Int) > (1 : Int)))) else (some false)) : Option Bool) = some (decide (x.f1 ≤ k ∧ 1 < r.length)) := by
      by_cases c : x.f1 ≤ k
      · rw [if_pos (by simpa using c)]; simp [c]; omega
      · simp [c]
    rw [hb, sb]
    by_cases c : x.f1 ≤ k ∧ 1 < r.length
    · rw [if_pos (decide_eq_true c)]
      exact .inr ⟨r, rfl, pre, x, suf, h1, ⟨c.1, by rw [← hrl]; exact c.2⟩, hr1, hr2, hn⟩
    · rw [if_neg (by rw [decide_eq_true_eq]; exact c)]
      exact ih (pre ++ [x]) (i + 1) (by simp [h1]) (by simp; omega) (fun y hy => by
        rcases List.mem_append.1 hy with hy | hy
        · exact hn y hy
        · simp at hy; subst hy; intro q; exact c ⟨q.1, by rw [hrl]; exact q.2⟩)
theorem next_l0 (S : List It) (hl : S.length < 1000000) (hR : ∀ x ∈ S, okI x) : ∀ (m : Nat) (k : Int), k + m = 5 → 0 ≤ k → (∀ j, 0 ≤ j → j < k → ∀ y ∈ S, ¬ cand S j y) →
    (f_plan_Next.l0 (S.map toP) k = some (.inr ()) ∧ ∀ j, 0 ≤ j → j ≤ 4 → ∀ y ∈ S, ¬ cand S j y) ∨ ∃ r k', f_plan_Next.l0 (S.map toP) k = some (.inl (⟨r, k'⟩, true)) ∧ NextR S r k' := by
  intro m
  induction m with
  | zero =>
    intro k hk h0 hn
    rw [f_plan_Next.l0, if_neg (by simp; omega)]
    exact .inl ⟨rfl, fun j g1 g2 => hn j g1 (by omega)⟩
  | succ m ih =>
    intro k hk h0 hn
    rw [f_plan_Next.l0, if_pos (by simp; omega)]
    rcases next_l1 S k hl hR S [] 0 rfl rfl (by simp) with ⟨e, h⟩ | ⟨r, e, h⟩
    · rw [e, sb, wrap64 (by omega) (by omega)]
      exact ih (k + 1) (by omega) (by omega) (fun j g1 g2 => by
        by_cases q : j = k
        · subst q; exact h
        · exact hn j g1 (by omega))
    · rw [e, sb]
      exact .inr ⟨r, k, rfl, h0, by omega, h, hn⟩
theorem next17 (l : List It) (hl : l.length < 1000000) (hR : ∀ x ∈ l, okI x) : ∃ S : List It, S.Perm l ∧ S.Pairwise le17 ∧
    ((f_plan_Next.f (l.map toP) = some (⟨[], 0⟩, false) ∧ ∀ j, 0 ≤ j → j ≤ 4 → ∀ y ∈ S, ¬ cand S j y) ∨ ∃ r k, f_plan_Next.f (l.map toP) = some (⟨r, k⟩, true) ∧ NextR S r k) := by
  unfold f_plan_Next.f
  obtain ⟨S, e, h1, h2⟩ := sorted17 l hl
  refine ⟨S, h1, h2, ?_⟩
  have hlen := h1.length_eq
  rw [e, sb]
  rcases next_l0 S (by omega) (fun x hx => hR x (h1.mem_iff.1 hx)) 5 0 (by omega) (by omega) (fun j g1 g2 => by omega) with ⟨g, h⟩ | ⟨r, k, g, h⟩
  · rw [g, sb]; exact .inl ⟨rfl, h⟩
  · rw [g, sb]; exact .inr ⟨r, k, rfl, h⟩
end Go.Proofs.Ytfkppdcfgmgllaa.PvGD1
set_option linter.unusedVariables false
set_option linter.unusedSimpArgs false
namespace Go.Proofs.Ytfkppdcfgmgllaa.PvGD1
open Go Go.Pv Go.Pv.GS
def ov (x y : It) : Prop := x.f2 < y.f3 ∧ y.f2 < x.f3
theorem ov_symm {x y : It} (h : ov x y) : ov y x := ⟨h.2, h.1⟩
def NoOv (l : List It) : Prop := l.Pairwise (fun x y => ¬ ov x y)
theorem NoOv.perm {a b : List It} (hp : a.Perm b) : NoOv a ↔ NoOv b := hp.pairwise_iff (fun h q => h (ov_symm q))
theorem two_mem {l : List It} {x y : It} (hx : x ∈ l) (hy : y ∈ l) (h : x.f0 ≠ y.f0) : 1 < l.length := by
  match l with
  | [] => simp at hx
  | [z] => simp at hx hy; rw [hx, hy] at h; exact absurd rfl h
  | _ :: _ :: _ => simp
theorem wd0 : wd 0 = 64 := rfl
theorem wd1 : wd 1 = 256 := rfl
theorem wd2 : wd 2 = 1024 := rfl
theorem wd3 : wd 3 = 4096 := rfl
theorem wd4 : wd 4 = 16384 := rfl
theorem ov_in {x y : It} (hx : okI x) (hy : okI y) (hle : x.f1 ≤ y.f1) (h : ov x y) : y.f2 ≤ x.f2 ∧ x.f3 ≤ y.f3 := by
  obtain ⟨a1, a2, a3, a4, a5, a6⟩ := hx
  obtain ⟨b1, b2, b3, b4, b5, b6⟩ := hy
  obtain ⟨h1, h2⟩ := h
  generalize x.f1 = j at *
  generalize y.f1 = k at *
  rcases (show k = 0 ∨ k = 1 ∨ k = 2 ∨ k = 3 ∨ k = 4 by omega) with rfl | rfl | rfl | rfl | rfl <;>
  rcases (show j = 0 ∨ j = 1 ∨ j = 2 ∨ j = 3 ∨ j = 4 by omega) with rfl | rfl | rfl | rfl | rfl <;>
  first | (exfalso; omega) | (simp only [wd0, wd1, wd2, wd3, wd4] at *; omega)
theorem atL_self {x : It} (hx : okI x) : atL x.f1 x = x.f2 := by
  unfold atL
  have := Int.mul_ediv_add_emod x.f2 (wd x.f1)
  rw [hx.2.2.2.2.1, Int.mul_comm] at this
  omega
theorem no_ov {S : List It} (hR : RightI S) (hn : ∀ j, 0 ≤ j → j ≤ 4 → ∀ y ∈ S, ¬ cand S j y) : NoOv S := by
  have key : ∀ x y : It, x ∈ S → y ∈ S → x.f0 ≠ y.f0 → x.f1 ≤ y.f1 → ¬ ov x y := fun x y hx hy hxy hle ho => by
    have ox := hR.1 x hx
    have oy := hR.1 y hy
    obtain ⟨i1, i2⟩ := ov_in ox oy hle ho
    refine hn y.f1 oy.1 oy.2.1 y hy ⟨Int.le_refl _, two_mem (x := x) (y := y) ?_ ?_ hxy⟩
    · refine List.mem_filter.2 ⟨hx, ?_⟩
      rw [atL_self oy]
      exact decide_eq_true ⟨i1, by have := oy.2.2.2.2.2; omega⟩
    · refine List.mem_filter.2 ⟨hy, ?_⟩
      rw [atL_self oy]
      exact decide_eq_true ⟨Int.le_refl _, by have := oy.2.2.2.2.2; omega⟩
  refine List.Pairwise.imp_of_mem (fun {a b} ha hb h => ?_) hR.2
  rcases Int.le_total a.f1 b.f1 with q | q
  · exact key a b ha hb h q
  · exact fun ho => key b a hb ha (fun e => h e.symm) q (ov_symm ho)
theorem papart_l0 (S : List It) (hl : S.length < 1000000) (hR : ∀ x ∈ S, okI x) (hs : S.Pairwise le17) : ∀ (suf pre : List It) (high i : Int), S = pre ++ suf → i = (pre.length : Int) → NoOv pre → (∀ y ∈ pre, y.f3 ≤ high) → ((pre = [] ∧ high = 0) ∨ ∃ y ∈ pre, y.f3 = high) → 0 ≤ high →
    (f_plan_Apart.l0 (S.map toP) high i = some (.inr ()) ∧ NoOv S) ∨ (f_plan_Apart.l0 (S.map toP) high i = some (.inl false) ∧ ¬ NoOv S) := by
  intro suf
  induction suf with
  | nil =>
    intro pre high i h1 hi hN hh he h0
    rw [List.append_nil] at h1
    subst h1
    rw [f_plan_Apart.l0, if_neg (by simp [hi])]
    exact .inl ⟨rfl, hN⟩
  | cons x suf ih =>
    intro pre high i h1 hi hN hh he h0
    have hlen : S.length = pre.length + (suf.length + 1) := by rw [h1]; simp
    have hm : S.map toP = pre.map toP ++ toP x :: suf.map toP := by rw [h1]; simp
    have hx := hR x (by rw [h1]; simp)
    have hw := wd_pos x.f1
    have hx3 := hx.2.2.2.2.2
    have e1 : S = (pre ++ [x]) ++ suf := by simp [h1]
    rw [f_plan_Apart.l0, if_pos (by simp; omega), at_mid hm (by simp [hi]), sb, show (toP x).f1.f0 = x.f2 from rfl, show (toP x).f1.f1 = x.f3 from rfl, wrap64 (n := i + 1) (by omega) (by omega)]
    have hb : ((if (decide (i > (0 : Int))) = true then (some (decide (x.f2 < high))) else (some false)) : Option Bool) = some (decide (0 < i ∧ x.f2 < high)) := by
      by_cases c : 0 < i <;> simp [c]
    rw [hb, sb]
    have hbef : ∀ y ∈ pre, le17 y x := fun y hy => by
      rw [h1] at hs; exact (List.pairwise_append.1 hs).2.2 y hy x (by simp)
    by_cases c : 0 < i ∧ x.f2 < high
    · rw [if_pos (decide_eq_true c)]
      refine .inr ⟨rfl, fun hNS => ?_⟩
      obtain ⟨y, hy, hy3⟩ : ∃ y ∈ pre, y.f3 = high := by
        rcases he with ⟨e, _⟩ | he
        · rw [e] at hi; simp at hi; omega
        · exact he
      rw [h1] at hNS
      have := (List.pairwise_append.1 hNS).2.2 y hy x (by simp)
      refine this ⟨?_, by omega⟩
      have := hbef y hy
      unfold le17 at this
      omega
    · rw [if_neg (by rw [decide_eq_true_eq]; exact c)]
      refine ih (pre ++ [x]) _ (i + 1) e1 (by simp; omega) (List.pairwise_append.2 ⟨hN, List.pairwise_singleton _ _, fun y hy z hz => ?_⟩) (fun y hy => ?_) (.inr ?_) (by split <;> omega)
      · simp at hz; subst hz
        have hpos : 0 < i := by
          have : 0 < pre.length := List.length_pos_of_mem hy
          omega
        have := hh y hy
        rintro ⟨_, q⟩
        omega
      · rcases List.mem_append.1 hy with hy | hy
        · have := hh y hy; split <;> omega
        · simp at hy; subst hy; split <;> omega
      · by_cases q : x.f3 > high
        · rw [if_pos q]; exact ⟨x, by simp, rfl⟩
        · rw [if_neg q]
          obtain ⟨y, hy, hy3⟩ : ∃ y ∈ pre, y.f3 = high := by
            rcases he with ⟨_, e⟩ | he
            · have h2 := hx.2.2.1
              omega
            · exact he
          exact ⟨y, by simp [hy], hy3⟩
theorem papart (l : List It) (hl : l.length < 1000000) (hR : ∀ x ∈ l, okI x) : (f_plan_Apart.f (l.map toP) = some true ∧ NoOv l) ∨ (f_plan_Apart.f (l.map toP) = some false ∧ ¬ NoOv l) := by
  unfold f_plan_Apart.f
  obtain ⟨S, e, h1, h2⟩ := sorted17 l hl
  have hlen := h1.length_eq
  rw [e, sb]
  rcases papart_l0 S (by omega) (fun x hx => hR x (h1.mem_iff.1 hx)) h2 S [] 0 0 rfl rfl List.Pairwise.nil (by simp) (.inl ⟨rfl, rfl⟩) (by omega) with ⟨g, h⟩ | ⟨g, h⟩
  · rw [g, sb]; exact .inl ⟨rfl, (NoOv.perm h1).1 h⟩
  · rw [g, sb]; exact .inr ⟨rfl, fun q => h ((NoOv.perm h1).2 q)⟩
theorem rapart_l1 (l : List It) (hl : l.length < 1000000) (k : Nat) (x : It) (hk : l[k]? = some x) : ∀ (m n : Nat), n + m = k → (∃ j y, n ≤ j ∧ j < k ∧ l[j]? = some y ∧ ov x y ∧ f_pluvialref17_Apart.l1 l (k : Int) (n : Int) = some (.inl false)) ∨ ((∀ j y, n ≤ j → j < k → l[j]? = some y → ¬ ov x y) ∧ f_pluvialref17_Apart.l1 l (k : Int) (n : Int) = some (.inr ())) := by
  intro m
  have hkl := (List.getElem?_eq_some_iff.1 hk).1
  induction m with
  | zero => intro n h; rw [f_pluvialref17_Apart.l1, if_neg (by simp; omega)]; exact .inr ⟨fun j y h1 h2 => by omega, rfl⟩
  | succ m ih =>
    intro n h
    have hn : l[n]? = some l[n] := List.getElem?_eq_getElem (by omega)
    rw [f_pluvialref17_Apart.l1, if_pos (by simp; omega), at_nat rfl hk, sb, at_nat rfl hn, sb, wrap64 (by omega) (by omega)]
    have hb : ((if (decide (x.f2 < l[n].f3)) = true then (some (decide (l[n].f2 < x.f3))) else (some false)) : Option Bool) = some (decide (x.f2 < l[n].f3 ∧ l[n].f2 < x.f3)) := by
      by_cases c : x.f2 < l[n].f3 <;> simp [c]
    rw [hb, sb]
    by_cases e : x.f2 < l[n].f3 ∧ l[n].f2 < x.f3
    · rw [if_pos (decide_eq_true e)]
      exact .inl ⟨n, _, Nat.le_refl _, by omega, hn, e, rfl⟩
    · rw [if_neg (by rw [decide_eq_true_eq]; exact e)]
      rcases ih (n + 1) (by omega) with ⟨j, y, h1, h2, h3, h4, h5⟩ | ⟨h1, h2⟩
      · exact .inl ⟨j, y, by omega, h2, h3, h4, h5⟩
      · refine .inr ⟨fun j y g1 g2 g3 => ?_, h2⟩
        by_cases ej : j = n
        · subst ej; rw [hn] at g3; simp at g3; rw [← g3]; exact e
        · exact h1 j y (by omega) g2 g3
theorem rapart_l0 (l : List It) (hl : l.length < 1000000) : ∀ (suf pre : List It) (i : Int), l = pre ++ suf → i = (pre.length : Int) → NoOv pre →
    (f_pluvialref17_Apart.l0 l i = some (.inr ()) ∧ NoOv l) ∨ (f_pluvialref17_Apart.l0 l i = some (.inl false) ∧ ¬ NoOv l) := by
  intro suf
  induction suf with
  | nil => intro pre i h1 hi hN; rw [List.append_nil] at h1; subst h1; rw [f_pluvialref17_Apart.l0, if_neg (by simp [hi])]; exact .inl ⟨rfl, hN⟩
  | cons x suf ih =>
    intro pre i h1 hi hN
    have hlen : l.length = pre.length + (suf.length + 1) := by rw [h1]; simp
    have hx : l[pre.length]? = some x := by rw [h1]; simp
    rw [f_pluvialref17_Apart.l0, if_pos (by simp; omega), hi]
    rcases rapart_l1 l hl pre.length x hx pre.length 0 (by omega) with ⟨j, y, _, h2, h3, h4, h5⟩ | ⟨h2, h3⟩
    · rw [show f_pluvialref17_Apart.l1 l (pre.length : Int) 0 = _ from h5, sb]
      refine .inr ⟨rfl, fun hN => ?_⟩
      have := List.pairwise_iff_getElem.1 hN j pre.length (List.getElem?_eq_some_iff.1 h3).1 (List.getElem?_eq_some_iff.1 hx).1 h2
      rw [(List.getElem?_eq_some_iff.1 h3).2, (List.getElem?_eq_some_iff.1 hx).2] at this
      exact this (ov_symm h4)
    · rw [show f_pluvialref17_Apart.l1 l (pre.length : Int) 0 = _ from h3, sb]
      dsimp only
      rw [wrap64 (n := (pre.length : Int) + 1) (by omega) (by omega)]
      refine ih (pre ++ [x]) _ (by simp [h1]) (by simp) (List.pairwise_append.2 ⟨hN, List.pairwise_singleton _ _, fun y hy z hz => ?_⟩)
      simp at hz; subst hz
      obtain ⟨j, hj⟩ := List.getElem?_of_mem hy
      have hjl := (List.getElem?_eq_some_iff.1 hj).1
      exact fun q => h2 j y (by omega) hjl (by rw [h1, List.getElem?_append_left hjl]; exact hj) (ov_symm q)
theorem rapart (l : List It) (hl : l.length < 1000000) : (f_pluvialref17_Apart.f l = some true ∧ NoOv l) ∨ (f_pluvialref17_Apart.f l = some false ∧ ¬ NoOv l) := by
  unfold f_pluvialref17_Apart.f
  rcases rapart_l0 l hl l [] 0 rfl rfl List.Pairwise.nil with ⟨g, h⟩ | ⟨g, h⟩
  · rw [g, sb]; exact .inl ⟨rfl, h⟩
  · rw [g, sb]; exact .inr ⟨rfl, h⟩
end Go.Proofs.Ytfkppdcfgmgllaa.PvGD1
set_option linter.unusedVariables false
set_option linter.unusedSimpArgs false
namespace Go.Proofs.Ytfkppdcfgmgllaa.PvGD1
open Go Go.Pv Go.Pv.GS
theorem mem_unique {l : List It} (hd : l.Pairwise (fun a b => a.f0 ≠ b.f0)) {x y : It} (hx : x ∈ l) (hy : y ∈ l) (e : x.f0 = y.f0) : x = y := by
  induction l with
  | nil => simp at hx
  | cons z l ih =>
    have h := List.pairwise_cons.1 hd
    rcases List.mem_cons.1 hx with e1 | hx'
    · rcases List.mem_cons.1 hy with e2 | hy'
      · rw [e1, e2]
      · rw [e1] at e; exact absurd e (h.1 y hy')
    · rcases List.mem_cons.1 hy with e2 | hy'
      · rw [e2] at e; exact absurd e.symm (h.1 x hx')
      · exact ih h.2 hx' hy'
theorem named_in {l S : List It} (hR : RightI l) (hp : S.Perm l) {r : List Int} {k : Int} (h : NextR S r k) : ∃ x0 ∈ l, ∀ x ∈ l, x.f0 ∈ r → inW k (atL k x0) x = true := by
  obtain ⟨A, x0, B, h1, h2, h3, h4, h5⟩ := h.ex
  refine ⟨x0, hp.mem_iff.1 (by rw [h1]; simp), fun x hx hxr => ?_⟩
  obtain ⟨y, hy, hy2⟩ := List.mem_map.1 (h3.mem_iff.1 hxr)
  obtain ⟨y1, y2⟩ := List.mem_filter.1 hy
  have := mem_unique hR.2 (hp.mem_iff.1 y1) hx hy2
  rw [← this]; exact y2
theorem in_grid {x x0 : It} {k : Int} (hx : okI x) (hx0 : okI x0) (hk : 0 ≤ k ∧ k ≤ 4) (h : inW k (atL k x0) x = true) : x.f2 / wd k = x0.f2 / wd k ∧ x.f1 ≤ k ∧ atL k x = atL k x0 := by
  have hw := wd_pos k
  have hw1 := wd_pos x.f1
  obtain ⟨h1, h2⟩ := of_decide_eq_true h
  have h3 := hx.2.2.2.2.2
  have e : x.f2 / wd k = x0.f2 / wd k := by
    unfold atL at h1 h2
    have q1 := Int.le_ediv_of_mul_le (c := wd k) (a := x0.f2 / wd k) (b := x.f2) (by omega) h1
    have q2 : x.f2 / wd k < x0.f2 / wd k + 1 := Int.ediv_lt_of_lt_mul (by omega) (by rw [Int.add_mul]; omega)
    omega
  refine ⟨e, ?_, by unfold atL; rw [e]⟩
  have h4 : wd x.f1 ≤ wd k := by
    have := atL_rng (k := k) hx
    unfold atL at *
    omega
  have a1 := hx.1
  have a2 := hx.2.1
  generalize x.f1 = j at *
  rcases (show k = 0 ∨ k = 1 ∨ k = 2 ∨ k = 3 ∨ k = 4 by omega) with rfl | rfl | rfl | rfl | rfl <;>
  rcases (show j = 0 ∨ j = 1 ∨ j = 2 ∨ j = 3 ∨ j = 4 by omega) with rfl | rfl | rfl | rfl | rfl <;>
  first | omega | (simp only [wd0, wd1, wd2, wd3, wd4] at h4; omega)
end Go.Proofs.Ytfkppdcfgmgllaa.PvGD1
set_option linter.unusedVariables false
set_option linter.unusedSimpArgs false
namespace Go.Proofs.Ytfkppdcfgmgllaa.PvGD1
open Go Go.Pv Go.Pv.GS
theorem lowF_one (k : Int) (s : List Int) (c : Int) (hc : 0 ≤ c) : ∀ (l : List It) (acc : Int), (∀ x ∈ l, x.f0 ∈ s → atL k x = c) → (acc = -1 ∨ acc = c) → (lowF k s acc l = c ∨ (lowF k s acc l = acc ∧ ∀ x ∈ l, x.f0 ∉ s))
  | [], acc, _, _ => .inr ⟨rfl, by simp⟩
  | x :: l, acc, h, ha => by
    rw [lowF]
    by_cases hin : x.f0 ∈ s
    · rw [if_pos hin, h x (by simp) hin]
      have e : (if acc < 0 ∨ c < acc then c else acc) = c := by
        rcases ha with rfl | rfl
        · rw [if_pos (.inl (by omega))]
        · rw [if_neg (by omega)]
      rw [e]
      rcases lowF_one k s c hc l c (fun y hy => h y (by simp [hy])) (.inr rfl) with q | q
      · exact .inl q
      · exact .inl q.1
    · rw [if_neg hin]
      rcases lowF_one k s c hc l acc (fun y hy => h y (by simp [hy])) ha with q | ⟨q1, q2⟩
      · exact .inl q
      · exact .inr ⟨q1, fun y hy => by rcases List.mem_cons.1 hy with rfl | hy; exact hin; exact q2 y hy⟩
theorem pairwise_nodup {l : List It} (hd : l.Pairwise (fun a b => a.f0 ≠ b.f0)) : (l.map (·.f0)).Nodup := by
  rw [List.Nodup, List.pairwise_map]; exact hd
theorem filter_len {α : Type} (p : α → Bool) : ∀ l : List α, (l.filter fun x => !p x).length + (l.filter p).length = l.length
  | [] => rfl
  | x :: l => by
    have := filter_len p l
    cases h : p x <;> simp [h] <;> omega
theorem named_len {l S : List It} (hR : RightI l) (hp : S.Perm l) {r : List Int} {k : Int} (h : NextR S r k) : (unN r l).length + r.length = l.length := by
  obtain ⟨A, x0, B, h1, h2, h3, h4, h5⟩ := h.ex
  have hnd : r.Nodup := h3.nodup_iff.2 ((pairwise_nodup ((hp.pairwise_iff (fun h => fun e => h e.symm)).2 hR.2)).sublist ((List.filter_sublist).map _))
  have hsub : ∀ s ∈ r, s ∈ l.map (·.f0) := fun s hs => by
    obtain ⟨y, hy, e⟩ := List.mem_map.1 (h3.mem_iff.1 hs)
    exact List.mem_map.2 ⟨y, hp.mem_iff.1 (List.mem_filter.1 hy).1, e⟩
  have hin : (l.filter fun x => decide (x.f0 ∈ r)).map (·.f0) = (l.map (·.f0)).filter fun s => decide (s ∈ r) := by
    rw [List.filter_map]; rfl
  have hperm : ((l.map (·.f0)).filter fun s => decide (s ∈ r)).Perm r := by
    refine (List.perm_ext_iff_of_nodup ((pairwise_nodup hR.2).filter _) hnd).2 (fun s => ?_)
    rw [List.mem_filter, decide_eq_true_eq]
    exact ⟨fun q => q.2, fun q => ⟨hsub s q, q⟩⟩
  have hl := hperm.length_eq
  rw [← hin, List.length_map] at hl
  have := filter_len (fun x : It => decide (x.f0 ∈ r)) l
  unfold unN
  omega
structure EndI (l0 l : List It) (seq : Int) : Prop where
  right : RightI l
  seqs : ∀ x ∈ l, x.f0 ≤ seq
  has : ∀ x ∈ l0, ∃ y ∈ l, y.f2 ≤ x.f2 ∧ x.f3 ≤ y.f3
theorem EndI.step {l0 l S : List It} {seq : Int} (h : EndI l0 l seq) (hp : S.Perm l) {r : List Int} {k : Int} (hn : NextR S r k) :
    EndI l0 (doL r k (seq + 1) l) (seq + 1) ∧ (doL r k (seq + 1) l).length + r.length = l.length + 1 := by
  obtain ⟨x0, hx0, hin⟩ := named_in h.right hp hn
  have ok0 := h.right.1 x0 hx0
  have hat := atL_rng (k := k) ok0
  have hw := wd_pos k
  have hgrid : ∀ x ∈ l, x.f0 ∈ r → atL k x = atL k x0 := fun x hx hxr => (in_grid (h.right.1 x hx) ok0 ⟨hn.k0, hn.k4⟩ (hin x hx hxr)).2.2
  have hnl := named_len h.right hp hn
  have hx0r : x0.f0 ∈ r ∨ ∃ x ∈ l, x.f0 ∈ r := by
    obtain ⟨A, x1, B, h1, h2, h3, h4, h5⟩ := hn.ex
    have h22 := h2.2
    have hl3 := h3.length_eq
    rw [List.length_map] at hl3
    obtain ⟨s, hs⟩ := List.exists_mem_of_length_pos (show 0 < r.length by omega)
    obtain ⟨y, hy, e⟩ := List.mem_map.1 (h3.mem_iff.1 hs)
    exact .inr ⟨y, hp.mem_iff.1 (List.mem_filter.1 hy).1, by rw [e]; exact hs⟩
  have hlow : lowF k r (-1) l = atL k x0 := by
    rcases lowF_one k r (atL k x0) hat.1 l (-1) hgrid (.inl rfl) with q | ⟨_, q⟩
    · exact q
    · rcases hx0r with q1 | ⟨x, hx, q1⟩
      · exact absurd q1 (q x0 hx0)
      · exact absurd q1 (q x hx)
  have hd : doL r k (seq + 1) l = unN r l ++ [⟨seq + 1, k, atL k x0, atL k x0 + wd k⟩] := by
    unfold doL; rw [hlow, if_neg (by omega)]
  rw [hd]
  have hun : ∀ y ∈ unN r l, y ∈ l ∧ y.f0 ∉ r := fun y hy => by
    obtain ⟨a, b⟩ := List.mem_filter.1 hy
    exact ⟨a, by simpa using b⟩
  refine ⟨⟨⟨fun y hy => ?_, List.pairwise_append.2 ⟨h.right.2.filter _, List.pairwise_singleton _ _, fun y hy z hz => ?_⟩⟩, fun y hy => ?_, fun x hx => ?_⟩, by simp; omega⟩
  · rcases List.mem_append.1 hy with hy | hy
    · exact h.right.1 y (hun y hy).1
    · simp at hy; subst hy
      have h5 := ok0.2.2.2.1
      refine ⟨hn.k0, hn.k4, hat.1, by show atL k x0 ≤ _; omega, ?_, rfl⟩
      show atL k x0 % wd k = 0
      unfold atL; exact Int.mul_emod_left _ _
  · simp at hz; subst hz
    have := h.seqs y (hun y hy).1
    show y.f0 ≠ seq + 1
    omega
  · rcases List.mem_append.1 hy with hy | hy
    · have := h.seqs y (hun y hy).1; omega
    · simp at hy; subst hy; exact Int.le_refl _
  · obtain ⟨y, hy, hy1, hy2⟩ := h.has x hx
    by_cases hyr : y.f0 ∈ r
    · obtain ⟨q1, q2⟩ := of_decide_eq_true (hin y hy hyr)
      exact ⟨_, List.mem_append.2 (.inr (List.mem_singleton.2 rfl)), by show atL k x0 ≤ _; omega, by show _ ≤ atL k x0 + wd k; omega⟩
    · exact ⟨y, List.mem_append.2 (.inl (List.mem_filter.2 ⟨hy, by simpa using hyr⟩)), hy1, hy2⟩
theorem ends_l0 (l : List It) (q : List Tplan_Item) (hl : l.length < 1000000) : ∀ (suf pre : List It) (m i : Int), l = pre ++ suf → i = (pre.length : Int) → (∀ x ∈ pre, x.f0 ≤ m) → 0 ≤ m →
    ∃ m', f_pluviallaw17_PlanEnds.l0 l q m i = some m' ∧ (∀ x ∈ l, x.f0 ≤ m') ∧ 0 ≤ m' := by
  intro suf
  induction suf with
  | nil => intro pre m i h1 hi hm h0; rw [List.append_nil] at h1; subst h1; rw [f_pluviallaw17_PlanEnds.l0, if_neg (by simp [hi])]; exact ⟨m, rfl, hm, h0⟩
  | cons x suf ih =>
    intro pre m i h1 hi hm h0
    have hlen : l.length = pre.length + (suf.length + 1) := by rw [h1]; simp
    rw [f_pluviallaw17_PlanEnds.l0, if_pos (by simp; omega), at_mid h1 hi, sb, wrap64 (n := i + 1) (by omega) (by omega)]
    exact ih (pre ++ [x]) _ (i + 1) (by simp [h1]) (by simp; omega) (fun y hy => by
      rcases List.mem_append.1 hy with hy | hy
      · have := hm y hy; split <;> omega
      · simp at hy; subst hy; split <;> omega) (by split <;> omega)
theorem ends_l1 (l0 : List It) (hl0 : l0.length ≤ 40) : ∀ (n : Nat) (l : List It) (seq i : Int), l.length ≤ n → EndI l0 l seq → 0 ≤ seq → seq ≤ 1099511627776 + i → 0 ≤ i → (l.length : Int) + i ≤ l0.length →
    ∃ e : List It, f_pluviallaw17_PlanEnds.l1 l0 (l.map toP) seq i = some (.inr (e.map toP)) ∧ e.length ≤ 40 ∧ (∃ s, EndI l0 e s) ∧ NoOv e := by
  intro n
  induction n with
  | zero =>
    intro l seq i hn h h0 h1 hi hli
    have : l = [] := List.length_eq_zero_iff.1 (by omega)
    subst this
    obtain ⟨S, s1, s2, s3⟩ := next17 [] (by simp) (by simp)
    have hS : S = [] := List.Perm.eq_nil s1
    subst hS
    rcases s3 with ⟨e, hno⟩ | ⟨r, k, e, hN⟩
    · rw [f_pluviallaw17_PlanEnds.l1, e, sb, if_pos (show (!false) = true from rfl)]
      exact ⟨[], rfl, by simp, ⟨seq, h⟩, List.Pairwise.nil⟩
    · obtain ⟨A, x, B, q, _⟩ := hN.ex
      simp at q
  | succ n ih =>
    intro l seq i hn h h0 h1 hi hli
    obtain ⟨S, s1, s2, s3⟩ := next17 l (by omega) h.right.1
    rcases s3 with ⟨e, hno⟩ | ⟨r, k, e, hN⟩
    · rw [f_pluviallaw17_PlanEnds.l1, e, sb, if_pos (show (!false) = true from rfl)]
      have hSR : RightI S := ⟨fun x hx => h.right.1 x (s1.mem_iff.1 hx), (s1.pairwise_iff (fun h => fun e => h e.symm)).2 h.right.2⟩
      exact ⟨l, rfl, by omega, ⟨seq, h⟩, (NoOv.perm s1).1 (no_ov hSR hno)⟩
    · obtain ⟨h', hlen⟩ := h.step s1 hN
      obtain ⟨A, x, B, q1, q2, q3, _⟩ := hN.ex
      have h22 := q2.2
      have hl3 := q3.length_eq
      rw [List.length_map] at hl3
      have hrl : r.length ≤ l.length := by have := named_len h.right s1 hN; omega
      rw [f_pluviallaw17_PlanEnds.l1, e, sb, if_neg (by simp), wrap64 (n := seq + 1) (by omega) (by omega), do_eq l ⟨r, k⟩ (seq + 1) (by omega) (by show r.length < _; omega) h.right.1, sb]
      dsimp only
      rw [if_neg (by simp; omega), if_neg (by simp; omega), wrap64 (n := (((l.map toP).length : Nat) : Int) - (r.length : Int)) (by simp; omega) (by simp; omega), wrap64 (by simp; omega) (by simp; omega), sb, if_neg (by simp; omega), wrap64 (n := i + 1) (by omega) (by omega)]
      exact ih _ (seq + 1) (i + 1) (by omega) h' (by omega) (by omega) (by omega) (by omega)
theorem ends_l3 (l0 : List It) (x : It) (e : List It) (q : List Tplan_Item) (j : Int) (he : e.length < 1000000) : ∀ (suf pre : List It) (b : Bool) (i : Int), e = pre ++ suf → i = (pre.length : Int) →
    f_pluviallaw17_PlanEnds.l3 l0 x e q j b i = some (b || suf.any fun y => decide (y.f2 ≤ x.f2 ∧ x.f3 ≤ y.f3)) := by
  intro suf
  induction suf with
  | nil => intro pre b i h1 hi; rw [f_pluviallaw17_PlanEnds.l3, if_neg (by rw [h1]; simp [hi])]; simp
  | cons y suf ih =>
    intro pre b i h1 hi
    have hlen : e.length = pre.length + (suf.length + 1) := by rw [h1]; simp
    have hb : ((if b = true then (some true) else (if (decide (y.f2 ≤ x.f2)) = true then (some (decide (y.f3 ≥ x.f3))) else (some false))) : Option Bool) = some (b || decide (y.f2 ≤ x.f2 ∧ x.f3 ≤ y.f3)) := by
      cases b
      · by_cases c : y.f2 ≤ x.f2 <;> simp [c]
      · rfl
    rw [f_pluviallaw17_PlanEnds.l3, if_pos (by simp; omega), at_mid h1 hi, sb, hb, sb, wrap64 (by omega) (by omega), ih (pre ++ [y]) _ (i + 1) (by simp [h1]) (by simp; omega), List.any_cons, Bool.or_assoc]
theorem ends_l2 (l0 : List It) (hl0 : l0.length ≤ 40) (e : List It) (q : List Tplan_Item) (he : e.length < 1000000) (h : ∀ x ∈ l0, ∃ y ∈ e, y.f2 ≤ x.f2 ∧ x.f3 ≤ y.f3) : ∀ (suf pre : List It) (i : Int), l0 = pre ++ suf → i = (pre.length : Int) →
    f_pluviallaw17_PlanEnds.l2 l0 e q i = some (.inr ()) := by
  intro suf
  induction suf with
  | nil => intro pre i h1 hi; rw [f_pluviallaw17_PlanEnds.l2, if_neg (by rw [h1]; simp [hi])]
  | cons x suf ih =>
    intro pre i h1 hi
    have hlen : l0.length = pre.length + (suf.length + 1) := by rw [h1]; simp
    obtain ⟨y, hy, h2⟩ := h x (by rw [h1]; simp)
    have : (e.any fun y => decide (y.f2 ≤ x.f2 ∧ x.f3 ≤ y.f3)) = true := List.any_eq_true.2 ⟨y, hy, decide_eq_true h2⟩
    rw [f_pluviallaw17_PlanEnds.l2, if_pos (by simp; omega), at_mid h1 hi, sb, ends_l3 l0 x e q i he e [] false 0 rfl rfl, sb, Bool.false_or, this, if_neg (by simp), wrap64 (by omega) (by omega)]
    exact ih (pre ++ [x]) (i + 1) (by simp [h1]) (by simp; omega)
theorem planEnds_R (l : List It) (hl : l.length ≤ maxLen ∧ ∀ y ∈ l, Rpluvialref17_Item y) : f_pluviallaw17_PlanEnds.f l = some true := by
  unfold f_pluviallaw17_PlanEnds.f
  by_cases g1 : 40 < l.length
  · rw [if_pos (by simp; omega), sb, if_pos rfl, awake17, sb]
  rw [if_neg (by simp; omega)]
  rcases right17 l (by omega) (fun x hx => (hl.2 x hx).r2) with ⟨hR, e⟩ | ⟨hR, e⟩
  case inr => rw [e, sb, sb, if_pos (show (!false) = true from rfl), awake17, sb]
  obtain ⟨m, em, hm, hm0⟩ := ends_l0 l (l.map toP) (by omega) l [] 0 0 rfl rfl (by simp) (by omega)
  rw [e, sb, sb, if_neg (by simp), to17 l (by omega), sb, em, sb]
  by_cases hmx : m > 1099511627776
  · rw [if_pos (by simpa using hmx), awake17, sb]
  rw [if_neg (by simpa using hmx)]
  have hI : EndI l l m := ⟨hR, hm, fun x hx => ⟨x, hx, Int.le_refl _, Int.le_refl _⟩⟩
  obtain ⟨en, ee, hel, ⟨s, hes⟩, hno⟩ := ends_l1 l (by omega) l.length l m 0 (Nat.le_refl _) hI hm0 (by omega) (by omega) (by omega)
  rw [ee, sb]
  dsimp only
  rw [from17 _ (by rw [List.length_map]; omega), sb, List.map_map, show (ofP ∘ toP) = id from rfl, List.map_id, ends_l2 l (by omega) en _ (by omega) hes.has l [] 0 rfl rfl, sb]
  dsimp only
  have hr : f_pluvialref17_Right.f en = some true := by
    rcases right17 en (by omega) (fun x hx => by have := hes.right.1 x hx; exact ⟨by have := this.2.2.1; omega, by have := this.2.2.2.1; omega⟩) with ⟨_, e⟩ | ⟨h, _⟩
    · exact e
    · exact absurd hes.right h
  have ha : f_pluvialref17_Apart.f en = some true := by
    rcases rapart en (by omega) with ⟨e, _⟩ | ⟨_, h⟩
    · exact e
    · exact absurd hno h
  have hp : f_plan_Apart.f (en.map toP) = some true := by
    rcases papart en (by omega) hes.right.1 with ⟨e, _⟩ | ⟨_, h⟩
    · exact e
    · exact absurd hno h
  rw [awake17, sb, if_pos rfl, hr, sb, if_pos rfl, ha, sb, if_pos rfl, hp, sb, sb]
end Go.Proofs.Ytfkppdcfgmgllaa.PvGD1
