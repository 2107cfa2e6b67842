import Derived.Test.YtfkppdcfgmgllaaPxPlanNext12
set_option linter.unusedVariables false
namespace Go.Proofs.Ytfkppdcfgmgllaa.PvGD2
open Go Go.Pv Go.Pv.GS
def iLt (a b : Int) : Bool := decide (a < b)
theorem iLt_swo : SWO iLt := ⟨fun a b h => by simp [iLt] at *; omega, fun a b c h1 h2 => by simp [iLt] at *; omega⟩
theorem iCmp : CmpB f_cmp_Less_int.f iLt := fun a b => ⟨_, by unfold f_cmp_Less_int.f f_cmp_isNaN_int.f; simp [sb]; rfl, by simp [iLt]⟩
theorem isort_inst : f_slices_Sort_int.f = oSortF.f f_cmp_Less_int.f := by kernel_rfl
theorem isort (l : List Int) (hl : l.length < 1000000000) : ∃ r, f_slices_Sort_int.f l = some r ∧ r.Perm l ∧ r.Pairwise (fun a b => a ≤ b) := by
  obtain ⟨r, e, h1, h2⟩ := o_sortF iCmp iLt_swo l hl
  rw [isort_inst]
  exact ⟨r, e, h1, h2.imp (fun h => by simp [iLt] at h; exact h)⟩
end Go.Proofs.Ytfkppdcfgmgllaa.PvGD2
set_option linter.unusedVariables false
set_option linter.unusedSimpArgs false
namespace Go.Proofs.Ytfkppdcfgmgllaa.PvGD2
open Go Go.Pv Go.Pv.GS
theorem cmp64 (a b : Int) : f_cmp_Compare_int64.f a b = some (if a < b then -1 else if a > b then 1 else 0) := by
  unfold f_cmp_Compare_int64.f f_cmp_isNaN_int64.f
  by_cases h1 : a < b
  · simp [h1]
  · by_cases h2 : b < a
    · simp [h1, h2]
    · simp [h1, h2]
theorem cmpI (a b : Int) : f_cmp_Compare_int.f a b = some (if a < b then -1 else if a > b then 1 else 0) := by
  unfold f_cmp_Compare_int.f f_cmp_isNaN_int.f
  by_cases h1 : a < b
  · simp [h1]
  · by_cases h2 : b < a
    · simp [h1, h2]
    · simp [h1, h2]
theorem or2p (a b : Int) : f_cmp_Or_int.f [a, b] = some (if a ≠ 0 then a else b) := by
  have w1 : IntKind.i64.wrap ((0 : Int) + 1) = 1 := by decide
  have w2 : IntKind.i64.wrap ((1 : Int) + 1) = 2 := by decide
  unfold f_cmp_Or_int.f
  rw [f_cmp_Or_int.l0, if_pos (by simp), show at? [a, b] 0 = some a from rfl, sb]
  by_cases ha : a = 0
  · subst ha
    rw [if_neg (by simp), w1, f_cmp_Or_int.l0, if_pos (by simp), show at? [0, b] 1 = some b from rfl, sb]
    by_cases hb : b = 0
    · subst hb
      rw [if_neg (by simp), w2, f_cmp_Or_int.l0, if_neg (by simp)]; rfl
    · rw [if_pos (by simpa using hb)]; simp [hb]
  · rw [if_pos (by simpa using ha)]; simp [ha]
def pLt (a b : Tplan_Item) : Bool := decide (a.f1.f0 < b.f1.f0) || (decide (a.f1.f0 = b.f1.f0) && decide (a.f0 < b.f0))
theorem pLt_swo : SWO pLt := ⟨fun a b h => by simp [pLt] at *; omega, fun a b c h1 h2 => by simp [pLt] at *; omega⟩
theorem pCmp : Cmp f_plan_sorted_1.f pLt := fun a b => by
  refine ⟨_, by unfold f_plan_sorted_1.f; rw [cmp64, sb, cmpI, sb, or2p, sb], ?_⟩
  simp only [pLt]
  by_cases h1 : a.f1.f0 < b.f1.f0
  · simp [h1]
  · by_cases h2 : b.f1.f0 < a.f1.f0
    · have h3 : ¬ a.f1.f0 = b.f1.f0 := by omega
      simp [h1, h2, h3]
    · have h3 : a.f1.f0 = b.f1.f0 := by omega
      by_cases h4 : a.f0 < b.f0
      · simp [h1, h2, h3, h4]
      · by_cases h5 : b.f0 < a.f0 <;> simp [h1, h2, h3, h4, h5]
theorem psort_inst : f_slices_SortFunc_plan_Item_plan_sorted_1.f = SortF.f f_plan_sorted_1.f := by kernel_rfl
def le17 (a b : It) : Prop := a.f2 < b.f2 ∨ (a.f2 = b.f2 ∧ a.f0 ≤ b.f0)
theorem sorted17 (l : List It) (hl : l.length < 1000000) : ∃ S : List It, f_plan_sorted.f (l.map toP) = some (S.map toP) ∧ S.Perm l ∧ S.Pairwise le17 := by
  unfold f_plan_sorted.f f_slices_Clone_plan_Item.f
  rw [chkB (by simp; omega), sb, psort_inst]
  obtain ⟨s, e, h1, h2⟩ := sortF pCmp pLt_swo (l.map toP) (by simp; omega)
  rw [e, sb]
  refine ⟨s.map ofP, by rw [List.map_map, show toP ∘ ofP = id from rfl, List.map_id], ?_, ?_⟩
  · have := h1.map ofP
    rw [List.map_map, show ofP ∘ toP = id from rfl, List.map_id] at this
    exact this
  · rw [List.pairwise_map]
    exact h2.imp (fun {a b} h => by
      simp only [pLt, Bool.or_eq_false_iff, decide_eq_false_iff_not, Bool.and_eq_false_iff] at h
      show a.f1.f0 < b.f1.f0 ∨ (a.f1.f0 = b.f1.f0 ∧ a.f0 ≤ b.f0)
      omega)
theorem sort_unique {α : Type} {r : α → α → Prop} (hr : ∀ a b, r a b → r b a → a = b) : ∀ {A B : List α}, A.Perm B → A.Pairwise r → B.Pairwise r → A = B
  | [], B, hp, _, _ => (List.Perm.eq_nil hp.symm).symm
  | x :: A, [], hp, _, _ => absurd hp.length_eq (by simp)
  | x :: A, y :: B, hp, hA, hB => by
    have hA' := List.pairwise_cons.1 hA
    have hB' := List.pairwise_cons.1 hB
    have e : x = y := by
      rcases List.mem_cons.1 (hp.mem_iff.1 (List.mem_cons_self (a := x) (l := A))) with q | q
      · exact q
      · rcases List.mem_cons.1 (hp.mem_iff.2 (List.mem_cons_self (a := y) (l := B))) with p | p
        · exact p.symm
        · exact hr x y (hA'.1 y p) (hB'.1 x q)
    subst e
    rw [sort_unique hr (List.Perm.cons_inv hp) hA'.2 hB'.2]
theorem ints_unique {A B : List Int} (hp : A.Perm B) (hA : A.Pairwise (· ≤ ·)) (hB : B.Pairwise (· ≤ ·)) : A = B := sort_unique (fun a b h1 h2 => by omega) hp hA hB
def inW (k low : Int) (x : It) : Bool := decide (low ≤ x.f2 ∧ x.f3 ≤ low + wd k)
theorem within_l0 (S : List It) (k low : Int) (hl : S.length < 1000000) (hlow : -1200000000000000 ≤ low ∧ low ≤ 1200000000000000) : ∀ (suf pre : List It) (o : List Int) (i : Int), S = pre ++ suf → i = (pre.length : Int) → o.length ≤ pre.length →
    f_plan_Within.l0 (S.map toP) k low o i = some (o ++ (suf.filter (inW k low)).map (·.f0)) := by
  intro suf
  have hw := wd_pos k
  induction suf with
  | nil => intro pre o i h1 hi ho; rw [f_plan_Within.l0, if_neg (by rw [h1]; simp [hi])]; simp
  | cons x suf ih =>
    intro pre o i h1 hi ho
    have hlen : S.length = pre.length + (suf.length + 1) := by rw [h1]; simp
    have hm : S.map toP = pre.map toP ++ toP x :: suf.map toP := by rw [h1]; simp
    have e1 : S = (pre ++ [x]) ++ suf := by simp [h1]
    rw [f_plan_Within.l0, if_pos (by simp; omega), at_mid hm (by simp [hi]), sb, show (toP x).f1.f0 = x.f2 from rfl, show (toP x).f1.f1 = x.f3 from rfl, show (toP x).f0 = x.f0 from rfl, bwidth, sb, bwd, wrap64 (n := low + wd k) (by omega) (by omega), wrap64 (n := i + 1) (by omega) (by omega)]
    have hb : ((if (decide (x.f2 ≥ low)) = true then (some (decide (x.f3 ≤ low + wd k))) else (some false)) : Option Bool) = some (inW k low x) := by
      unfold inW
      by_cases c : low ≤ x.f2 <;> simp [c]
    rw [hb, sb]
    cases c : inW k low x with
    | true =>
      rw [if_pos rfl, chkB (by simp; omega), sb, ih (pre ++ [x]) _ (i + 1) e1 (by simp; omega) (by simp; omega)]
      simp [c]
    | false =>
      rw [if_neg (by simp), sb, ih (pre ++ [x]) _ (i + 1) e1 (by simp; omega) (by simp; omega)]
      simp [c]
theorem within17 (S : List It) (k low : Int) (hl : S.length < 1000000) (hlow : -1200000000000000 ≤ low ∧ low ≤ 1200000000000000) : ∃ r, f_plan_Within.f (S.map toP) k low = some r ∧ r.Perm ((S.filter (inW k low)).map (·.f0)) ∧ r.Pairwise (· ≤ ·) := by
  unfold f_plan_Within.f
  have hf : (S.filter (inW k low)).length ≤ S.length := List.length_filter_le ..
  rw [within_l0 S k low hl hlow S [] [] 0 rfl rfl (by simp), sb, List.nil_append]
  obtain ⟨r, e, h1, h2⟩ := isort ((S.filter (inW k low)).map (·.f0)) (by rw [List.length_map]; omega)
  rw [e, sb]
  exact ⟨r, rfl, h1, h2⟩
def cand (S : List It) (k : Int) (y : It) : Prop := y.f1 ≤ k ∧ 1 < (S.filter (inW k (atL k y))).length
structure NextR (S : List It) (r : List Int) (k : Int) : Prop where
  k0 : 0 ≤ k
  k4 : k ≤ 4
  ex : ∃ A x B, S = A ++ x :: B ∧ cand S k x ∧ r.Perm ((S.filter (inW k (atL k x))).map (·.f0)) ∧ r.Pairwise (· ≤ ·) ∧ ∀ y ∈ A, ¬ cand S k y
  low : ∀ j, 0 ≤ j → j < k → ∀ y ∈ S, ¬ cand S j y
theorem next_l1 (S : List It) (k : Int) (hl : S.length < 1000000) (hR : ∀ x ∈ S, okI x) : ∀ (suf pre : List It) (i : Int), S = pre ++ suf → i = (pre.length : Int) → (∀ y ∈ pre, ¬ cand S k y) →
    (f_plan_Next.l1 (S.map toP) k i = some (.inr ()) ∧ ∀ y ∈ S, ¬ cand S k y) ∨ (∃ r, f_plan_Next.l1 (S.map toP) k i = some (.inl (⟨r, k⟩, true)) ∧ ∃ A x B, S = A ++ x :: B ∧ cand S k x ∧ r.Perm ((S.filter (inW k (atL k x))).map (·.f0)) ∧ r.Pairwise (· ≤ ·) ∧ ∀ y ∈ A, ¬ cand S k y) := by
  intro suf
  induction suf with
  | nil =>
    intro pre i h1 hi hn
    rw [List.append_nil] at h1
    subst h1
    rw [f_plan_Next.l1, if_neg (by simp [hi])]
    exact .inl ⟨rfl, hn⟩
  | cons x suf ih =>
    intro pre i h1 hi hn
    have hlen : S.length = pre.length + (suf.length + 1) := by rw [h1]; simp
    have hm : S.map toP = pre.map toP ++ toP x :: suf.map toP := by rw [h1]; simp
    have hx := hR x (by rw [h1]; simp)
    have hat := atL_rng (k := k) hx
    have h5 := hx.2.2.2.1
    obtain ⟨r, er, hr1, hr2⟩ := within17 S k (atL k x) hl (by omega)
    have hrl := hr1.length_eq
    rw [List.length_map] at hrl
    rw [f_plan_Next.l1, if_pos (by simp; omega), at_mid hm (by simp [hi]), sb, show (toP x).f1.f0 = x.f2 from rfl, show (toP x).f1.f2 = x.f1 from rfl, blow, sb, atL_low hx, er, sb, wrap64 (n := i + 1) (by omega) (by omega)]
    have hb : ((if (decide (x.f1 ≤ k)) = true then (some (decide ((r.length : Int) > (1 : Int)))) else (some false)) : Option Bool) = some (decide (x.f1 ≤ k ∧ 1 < r.length)) := by
      by_cases c : x.f1 ≤ k
      · rw [if_pos (by simpa using c)]; simp [c]; omega
      · simp [c]
    rw [hb, sb]
    by_cases c : x.f1 ≤ k ∧ 1 < r.length
    · rw [if_pos (decide_eq_true c)]
      exact .inr ⟨r, rfl, pre, x, suf, h1, ⟨c.1, by rw [← hrl]; exact c.2⟩, hr1, hr2, hn⟩
    · rw [if_neg (by rw [decide_eq_true_eq]; exact c)]
      exact ih (pre ++ [x]) (i + 1) (by simp [h1]) (by simp; omega) (fun y hy => by
        rcases List.mem_append.1 hy with hy | hy
        · exact hn y hy
        · simp at hy; subst hy; intro q; exact c ⟨q.1, by rw [hrl]; exact q.2⟩)
theorem next_l0 (S : List It) (hl : S.length < 1000000) (hR : ∀ x ∈ S, okI x) : ∀ (m : Nat) (k : Int), k + m = 5 → 0 ≤ k → (∀ j, 0 ≤ j → j < k → ∀ y ∈ S, ¬ cand S j y) →
    (f_plan_Next.l0 (S.map toP) k = some (.inr ()) ∧ ∀ j, 0 ≤ j → j ≤ 4 → ∀ y ∈ S, ¬ cand S j y) ∨ ∃ r k', f_plan_Next.l0 (S.map toP) k = some (.inl (⟨r, k'⟩, true)) ∧ NextR S r k' := by
  intro m
  induction m with
  | zero =>
    intro k hk h0 hn
    rw [f_plan_Next.l0, if_neg (by simp; omega)]
    exact .inl ⟨rfl, fun j g1 g2 => hn j g1 (by omega)⟩
  | succ m ih =>
    intro k hk h0 hn
    rw [f_plan_Next.l0, if_pos (by simp; omega)]
    rcases next_l1 S k hl hR S [] 0 rfl rfl (by simp) with ⟨e, h⟩ | ⟨r, e, h⟩
    · rw [e, sb, wrap64 (by omega) (by omega)]
      exact ih (k + 1) (by omega) (by omega) (fun j g1 g2 => by
        by_cases q : j = k
        · subst q; exact h
        · exact hn j g1 (by omega))
    · rw [e, sb]
      exact .inr ⟨r, k, rfl, h0, by omega, h, hn⟩
theorem next17 (l : List It) (hl : l.length < 1000000) (hR : ∀ x ∈ l, okI x) : ∃ S : List It, S.Perm l ∧ S.Pairwise le17 ∧
    ((f_plan_Next.f (l.map toP) = some (⟨[], 0⟩, false) ∧ ∀ j, 0 ≤ j → j ≤ 4 → ∀ y ∈ S, ¬ cand S j y) ∨ ∃ r k, f_plan_Next.f (l.map toP) = some (⟨r, k⟩, true) ∧ NextR S r k) := by
  unfold f_plan_Next.f
  obtain ⟨S, e, h1, h2⟩ := sorted17 l hl
  refine ⟨S, h1, h2, ?_⟩
  have hlen := h1.length_eq
  rw [e, sb]
  rcases next_l0 S (by omega) (fun x hx => hR x (h1.mem_iff.1 hx)) 5 0 (by omega) (by omega) (fun j g1 g2 => by omega) with ⟨g, h⟩ | ⟨r, k, g, h⟩
  · rw [g, sb]; exact .inl ⟨rfl, h⟩
  · rw [g, sb]; exact .inr ⟨r, k, rfl, h⟩
end Go.Proofs.Ytfkppdcfgmgllaa.PvGD2
set_option linter.unusedVariables false
set_option linter.unusedSimpArgs false
namespace Go.Proofs.Ytfkppdcfgmgllaa.PvGD2
open Go Go.Pv Go.Pv.GS
def ov (x y : It) : Prop := x.f2 < y.f3 ∧ y.f2 < x.f3
theorem ov_symm {x y : It} (h : ov x y) : ov y x := ⟨h.2, h.1⟩
def NoOv (l : List It) : Prop := l.Pairwise (fun x y => ¬ ov x y)
theorem NoOv.perm {a b : List It} (hp : a.Perm b) : NoOv a ↔ NoOv b := hp.pairwise_iff (fun h q => h (ov_symm q))
theorem papart_l0 (S : List It) (hl : S.length < 1000000) (hR : ∀ x ∈ S, okI x) (hs : S.Pairwise le17) : ∀ (suf pre : List It) (high i : Int), S = pre ++ suf → i = (pre.length : Int) → NoOv pre → (∀ y ∈ pre, y.f3 ≤ high) → ((pre = [] ∧ high = 0) ∨ ∃ y ∈ pre, y.f3 = high) → 0 ≤ high →
    (f_plan_Apart.l0 (S.map toP) high i = some (.inr ()) ∧ NoOv S) ∨ (f_plan_Apart.l0 (S.map toP) high i = some (.inl false) ∧ ¬ NoOv S) := by
  intro suf
  induction suf with
  | nil =>
    intro pre high i h1 hi hN hh he h0
    rw [List.append_nil] at h1
    subst h1
    rw [f_plan_Apart.l0, if_neg (by simp [hi])]
    exact .inl ⟨rfl, hN⟩
  | cons x suf ih =>
    intro pre high i h1 hi hN hh he h0
    have hlen : S.length = pre.length + (suf.length + 1) := by rw [h1]; simp
    have hm : S.map toP = pre.map toP ++ toP x :: suf.map toP := by rw [h1]; simp
    have hx := hR x (by rw [h1]; simp)
    have hw := wd_pos x.f1
    have hx3 := hx.2.2.2.2.2
    have e1 : S = (pre ++ [x]) ++ suf := by simp [h1]
    rw [f_plan_Apart.l0, if_pos (by simp; omega), at_mid hm (by simp [hi]), sb, show (toP x).f1.f0 = x.f2 from rfl, show (toP x).f1.f1 = x.f3 from rfl, wrap64 (n := i + 1) (by omega) (by omega)]
    have hb : ((if (decide (i > (0 : Int))) = true then (some (decide (x.f2 < high))) else (some false)) : Option Bool) = some (decide (0 < i ∧ x.f2 < high)) := by
      by_cases c : 0 < i <;> simp [c]
    rw [hb, sb]
    have hbef : ∀ y ∈ pre, le17 y x := fun y hy => by
      rw [h1] at hs; exact (List.pairwise_append.1 hs).2.2 y hy x (by simp)
    by_cases c : 0 < i ∧ x.f2 < high
    · rw [if_pos (decide_eq_true c)]
      refine .inr ⟨rfl, fun hNS => ?_⟩
      obtain ⟨y, hy, hy3⟩ : ∃ y ∈ pre, y.f3 = high := by
        rcases he with ⟨e, _⟩ | he
        · rw [e] at hi; simp at hi; omega
        · exact he
      rw [h1] at hNS
      have := (List.pairwise_append.1 hNS).2.2 y hy x (by simp)
      refine this ⟨?_, by omega⟩
      have := hbef y hy
      unfold le17 at this
      omega
    · rw [if_neg (by rw [decide_eq_true_eq]; exact c)]
      refine ih (pre ++ [x]) _ (i + 1) e1 (by simp; omega) (List.pairwise_append.2 ⟨hN, List.pairwise_singleton _ _, fun y hy z hz => ?_⟩) (fun y hy => ?_) (.inr ?_) (by split <;> omega)
      · simp at hz; subst hz
        have hpos : 0 < i := by
          have : 0 < pre.length := List.length_pos_of_mem hy
          omega
        have := hh y hy
        rintro ⟨_, q⟩
        omega
      · rcases List.mem_append.1 hy with hy | hy
        · have := hh y hy; split <;> omega
        · simp at hy; subst hy; split <;> omega
      · by_cases q : x.f3 > high
        · rw [if_pos q]; exact ⟨x, by simp, rfl⟩
        · rw [if_neg q]
          obtain ⟨y, hy, hy3⟩ : ∃ y ∈ pre, y.f3 = high := by
            rcases he with ⟨_, e⟩ | he
            · have h2 := hx.2.2.1
              omega
            · exact he
          exact ⟨y, by simp [hy], hy3⟩
theorem papart (l : List It) (hl : l.length < 1000000) (hR : ∀ x ∈ l, okI x) : (f_plan_Apart.f (l.map toP) = some true ∧ NoOv l) ∨ (f_plan_Apart.f (l.map toP) = some false ∧ ¬ NoOv l) := by
  unfold f_plan_Apart.f
  obtain ⟨S, e, h1, h2⟩ := sorted17 l hl
  have hlen := h1.length_eq
  rw [e, sb]
  rcases papart_l0 S (by omega) (fun x hx => hR x (h1.mem_iff.1 hx)) h2 S [] 0 0 rfl rfl List.Pairwise.nil (by simp) (.inl ⟨rfl, rfl⟩) (by omega) with ⟨g, h⟩ | ⟨g, h⟩
  · rw [g, sb]; exact .inl ⟨rfl, (NoOv.perm h1).1 h⟩
  · rw [g, sb]; exact .inr ⟨rfl, fun q => h ((NoOv.perm h1).2 q)⟩
theorem rapart_l1 (l : List It) (hl : l.length < 1000000) (k : Nat) (x : It) (hk : l[k]? = some x) : ∀ (m n : Nat), n + m = k → (∃ j y, n ≤ j ∧ j < k ∧ l[j]? = some y ∧ ov x y ∧ f_pluvialref17_Apart.l1 l (k : Int) (n : Int) = some (.inl false)) ∨ ((∀ j y, n ≤ j → j < k → l[j]? = some y → ¬ ov x y) ∧ f_pluvialref17_Apart.l1 l (k : Int) (n : Int) = some (.inr ())) := by
  intro m
  have hkl := (List.getElem?_eq_some_iff.1 hk).1
  induction m with
  | zero => intro n h; rw [f_pluvialref17_Apart.l1, if_neg (by simp; omega)]; exact .inr ⟨fun j y h1 h2 => by omega, rfl⟩
  | succ m ih =>
    intro n h
    have hn : l[n]? = some l[n] := List.getElem?_eq_getElem (by omega)
    rw [f_pluvialref17_Apart.l1, if_pos (by simp; omega), at_nat rfl hk, sb, at_nat rfl hn, sb, wrap64 (by omega) (by omega)]
    have hb : ((if (decide (x.f2 < l[n].f3)) = true then (some (decide (l[n].f2 < x.f3))) else (some false)) : Option Bool) = some (decide (x.f2 < l[n].f3 ∧ l[n].f2 < x.f3)) := by
      by_cases c : x.f2 < l[n].f3 <;> simp [c]
    rw [hb, sb]
    by_cases e : x.f2 < l[n].f3 ∧ l[n].f2 < x.f3
    · rw [if_pos (decide_eq_true e)]
      exact .inl ⟨n, _, Nat.le_refl _, by omega, hn, e, rfl⟩
    · rw [if_neg (by rw [decide_eq_true_eq]; exact e)]
      rcases ih (n + 1) (by omega) with ⟨j, y, h1, h2, h3, h4, h5⟩ | ⟨h1, h2⟩
      · exact .inl ⟨j, y, by omega, h2, h3, h4, h5⟩
      · refine .inr ⟨fun j y g1 g2 g3 => ?_, h2⟩
        by_cases ej : j = n
        · subst ej; rw [hn] at g3; simp at g3; rw [← g3]; exact e
        · exact h1 j y (by omega) g2 g3
theorem rapart_l0 (l : List It) (hl : l.length < 1000000) : ∀ (suf pre : List It) (i : Int), l = pre ++ suf → i = (pre.length : Int) → NoOv pre →
    (f_pluvialref17_Apart.l0 l i = some (.inr ()) ∧ NoOv l) ∨ (f_pluvialref17_Apart.l0 l i = some (.inl false) ∧ ¬ NoOv l) := by
  intro suf
  induction suf with
  | nil => intro pre i h1 hi hN; rw [List.append_nil] at h1; subst h1; rw [f_pluvialref17_Apart.l0, if_neg (by simp [hi])]; exact .inl ⟨rfl, hN⟩
  | cons x suf ih =>
    intro pre i h1 hi hN
    have hlen : l.length = pre.length + (suf.length + 1) := by rw [h1]; simp
    have hx : l[pre.length]? = some x := by rw [h1]; simp
    rw [f_pluvialref17_Apart.l0, if_pos (by simp; omega), hi]
    rcases rapart_l1 l hl pre.length x hx pre.length 0 (by omega) with ⟨j, y, _, h2, h3, h4, h5⟩ | ⟨h2, h3⟩
    · rw [show f_pluvialref17_Apart.l1 l (pre.length : Int) 0 = _ from h5, sb]
      refine .inr ⟨rfl, fun hN => ?_⟩
      have := List.pairwise_iff_getElem.1 hN j pre.length (List.getElem?_eq_some_iff.1 h3).1 (List.getElem?_eq_some_iff.1 hx).1 h2
      rw [(List.getElem?_eq_some_iff.1 h3).2, (List.getElem?_eq_some_iff.1 hx).2] at this
      exact this (ov_symm h4)
    · rw [show f_pluvialref17_Apart.l1 l (pre.length : Int) 0 = _ from h3, sb]
      dsimp only
      rw [wrap64 (n := (pre.length : Int) + 1) (by omega) (by omega)]
      refine ih (pre ++ [x]) _ (by simp [h1]) (by simp) (List.pairwise_append.2 ⟨hN, List.pairwise_singleton _ _, fun y hy z hz => ?_⟩)
      simp at hz; subst hz
      obtain ⟨j, hj⟩ := List.getElem?_of_mem hy
      have hjl := (List.getElem?_eq_some_iff.1 hj).1
      exact fun q => h2 j y (by omega) hjl (by rw [h1, List.getElem?_append_left hjl]; exact hj) (ov_symm q)
theorem rapart (l : List It) (hl : l.length < 1000000) : (f_pluvialref17_Apart.f l = some true ∧ NoOv l) ∨ (f_pluvialref17_Apart.f l = some false ∧ ¬ NoOv l) := by
  unfold f_pluvialref17_Apart.f
  rcases rapart_l0 l hl l [] 0 rfl rfl List.Pairwise.nil with ⟨g, h⟩ | ⟨g, h⟩
  · rw [g, sb]; exact .inl ⟨rfl, h⟩
  · rw [g, sb]; exact .inr ⟨rfl, h⟩
end Go.Proofs.Ytfkppdcfgmgllaa.PvGD2
set_option linter.unusedVariables false
set_option linter.unusedSimpArgs false
namespace Go.Proofs.Ytfkppdcfgmgllaa.PvGD2
open Go Go.Pv Go.Pv.GS
theorem ints_l0 (a b : List Int) (hl : a.length = b.length) (ha : a.length < 1000000000) : ∀ (sa sb' pa pb : List Int) (i : Int), a = pa ++ sa → b = pb ++ sb' → pa.length = pb.length → i = (pa.length : Int) →
    f_pluviallaw17_ints.l0 a b i = some (if sa = sb' then .inr () else .inl false) := by
  intro sa
  induction sa with
  | nil =>
    intro sb' pa pb i h1 h2 h3 hi
    have : sb' = [] := by
      rw [h1, h2] at hl; simp at hl
      exact List.length_eq_zero_iff.1 (by omega)
    subst this
    rw [f_pluviallaw17_ints.l0, if_neg (by rw [h1]; simp [hi])]
    rfl
  | cons x sa ih =>
    intro sb' pa pb i h1 h2 h3 hi
    cases sb' with
    | nil => rw [h1, h2] at hl; simp at hl; omega
    | cons y sb' =>
      have hlen : a.length = pa.length + (sa.length + 1) := by rw [h1]; simp
      rw [f_pluviallaw17_ints.l0, if_pos (by simp; omega), at_mid h1 hi, sb, at_mid h2 (by omega), sb, wrap64 (by omega) (by omega)]
      by_cases e : x = y
      · rw [if_neg (by simpa using e), ih sb' (pa ++ [x]) (pb ++ [y]) (i + 1) (by simp [h1]) (by simp [h2]) (by simp; omega) (by simp; omega)]
        simp [e]
      · rw [if_pos (by simpa using e)]
        simp [e]
theorem ints17 (a b : List Int) (ha : a.length < 1000000000) : f_pluviallaw17_ints.f a b = some (decide (a = b)) := by
  unfold f_pluviallaw17_ints.f
  by_cases h : a.length = b.length
  · rw [if_neg (by simp; omega), ints_l0 a b h ha a b [] [] 0 rfl rfl rfl rfl, sb]
    by_cases e : a = b <;> simp [e]
  · rw [if_pos (by simp; omega)]
    have : a ≠ b := fun e => h (by rw [e])
    simp [this]
theorem mem_unique {l : List It} (hd : l.Pairwise (fun a b => a.f0 ≠ b.f0)) {x y : It} (hx : x ∈ l) (hy : y ∈ l) (e : x.f0 = y.f0) : x = y := by
  induction l with
  | nil => simp at hx
  | cons z l ih =>
    have h := List.pairwise_cons.1 hd
    rcases List.mem_cons.1 hx with e1 | hx'
    · rcases List.mem_cons.1 hy with e2 | hy'
      · rw [e1, e2]
      · rw [e1] at e; exact absurd e (h.1 y hy')
    · rcases List.mem_cons.1 hy with e2 | hy'
      · rw [e2] at e; exact absurd e.symm (h.1 x hx')
      · exact ih h.2 hx' hy'
end Go.Proofs.Ytfkppdcfgmgllaa.PvGD2
set_option linter.unusedVariables false
set_option linter.unusedSimpArgs false
namespace Go.Proofs.Ytfkppdcfgmgllaa.PvGD2
open Go Go.Pv Go.Pv.GS
theorem rwithin_l1 (l : List It) (k low : Int) (o : List Int) (j : Nat) (x : It) (hx : l[j]? = some x) (ho : o.length < 1000000) : ∀ (suf pre : List Int) (i : Int), o = pre ++ suf → i = (pre.length : Int) → (∀ y ∈ pre, y < x.f0) →
    ∃ A B, o = A ++ B ∧ (∀ y ∈ A, y < x.f0) ∧ (∀ y, B.head? = some y → x.f0 ≤ y) ∧ f_pluvialref17_Within.l1 l k low o (j : Int) i = some (A.length : Int) := by
  intro suf
  induction suf with
  | nil =>
    intro pre i h1 hi h
    rw [f_pluvialref17_Within.l1, if_neg (by rw [h1]; simp [hi]), sb, if_neg (by simp)]
    exact ⟨pre, [], h1, h, by simp, by rw [hi]⟩
  | cons y suf ih =>
    intro pre i h1 hi h
    have hlen : o.length = pre.length + (suf.length + 1) := by rw [h1]; simp
    rw [f_pluvialref17_Within.l1, if_pos (by simp; omega), at_mid h1 hi, sb, at_nat rfl hx, sb, sb]
    by_cases c : y < x.f0
    · rw [if_pos (by simpa using c), wrap64 (by omega) (by omega)]
      exact ih (pre ++ [y]) (i + 1) (by simp [h1]) (by simp; omega) (fun z hz => by
        rcases List.mem_append.1 hz with hz | hz
        · exact h z hz
        · simp at hz; subst hz; exact c)
    · rw [if_neg (by simpa using c)]
      exact ⟨pre, y :: suf, h1, h, fun z hz => by simp at hz; subst hz; omega, by rw [hi]⟩
theorem rwithin_l0 (l : List It) (k low : Int) (hl : l.length < 100000) (hlow : -1200000000000000 ≤ low ∧ low ≤ 1200000000000000) : ∀ (suf pre : List It) (o : List Int) (i : Int), l = pre ++ suf → i = (pre.length : Int) → o.Perm ((pre.filter (inW k low)).map (·.f0)) → o.Pairwise (· ≤ ·) →
    ∃ r, f_pluvialref17_Within.l0 l k low o i = some r ∧ r.Perm ((l.filter (inW k low)).map (·.f0)) ∧ r.Pairwise (· ≤ ·) := by
  intro suf
  have hw := wd_pos k
  induction suf with
  | nil =>
    intro pre o i h1 hi hp hs
    rw [List.append_nil] at h1
    subst h1
    rw [f_pluvialref17_Within.l0, if_neg (by simp [hi])]
    exact ⟨o, rfl, hp, hs⟩
  | cons x suf ih =>
    intro pre o i h1 hi hp hs
    have hlen : l.length = pre.length + (suf.length + 1) := by rw [h1]; simp
    have hx : l[pre.length]? = some x := by rw [h1]; simp
    have hol : o.length ≤ pre.length := by
      have := hp.length_eq
      rw [List.length_map] at this
      have := List.length_filter_le (inW k low) pre
      omega
    have e1 : l = (pre ++ [x]) ++ suf := by simp [h1]
    rw [f_pluvialref17_Within.l0, if_pos (by simp; omega), at_mid h1 hi, sb, rwidth, sb, wrap64 (n := low + wd k) (by omega) (by omega), wrap64 (n := i + 1) (by omega) (by omega)]
    have hb : ((if (decide (x.f2 < low)) = true then (some true) else (some (decide (x.f3 > low + wd k)))) : Option Bool) = some (!inW k low x) := by
      unfold inW
      by_cases c : x.f2 < low
      · rw [if_pos (by simpa using c), decide_eq_false (show ¬ (low ≤ x.f2 ∧ x.f3 ≤ low + wd k) by omega)]; rfl
      · rw [if_neg (by simpa using c)]
        by_cases c2 : x.f3 > low + wd k
        · rw [decide_eq_true c2, decide_eq_false (show ¬ (low ≤ x.f2 ∧ x.f3 ≤ low + wd k) by omega)]; rfl
        · rw [decide_eq_false c2, decide_eq_true (show low ≤ x.f2 ∧ x.f3 ≤ low + wd k by omega)]; rfl
    rw [hb, sb]
    cases c : inW k low x with
    | false =>
      rw [if_pos (show (!false) = true from rfl), sb]
      exact ih (pre ++ [x]) o (i + 1) e1 (by simp; omega) (by simpa [c] using hp) hs
    | true =>
      obtain ⟨A, B, q1, q2, q3, q4⟩ := rwithin_l1 l k low o pre.length x hx (by omega) o [] 0 rfl rfl (by simp)
      have hlenAB : o.length = A.length + B.length := by rw [q1]; simp
      have t1 : (o.drop (Int.toNat 0)).take ((Int.toNat (A.length : Int)) - (Int.toNat 0)) = A := by
        rw [show Int.toNat 0 = 0 from rfl, Int.toNat_natCast, List.drop_zero, Nat.sub_zero, q1, List.take_left]
      have t2 : (o.drop (Int.toNat (A.length : Int))).take ((Int.toNat (o.length : Int)) - (Int.toNat (A.length : Int))) = B := by
        rw [Int.toNat_natCast, Int.toNat_natCast, q1, List.drop_left, List.length_append, Nat.add_sub_cancel_left, List.take_length]
      rw [if_neg (show ¬ (!true) = true by simp), hi, show f_pluvialref17_Within.l1 l k low o ((pre.length : Nat) : Int) 0 = _ from q4, sb, chkB (by omega), t1, t2, chkB (by simp; omega), sb, chkB (by simp; omega), chkB (by omega), chkB (by simp; omega), sb]
      have hsAB := List.pairwise_append.1 (q1 ▸ hs)
      have hBge : ∀ y ∈ B, x.f0 ≤ y := fun y hy => by
        cases B with
        | nil => simp at hy
        | cons b B' =>
          have hb := q3 b rfl
          rcases List.mem_cons.1 hy with rfl | hy
          · exact hb
          · have := (List.pairwise_cons.1 hsAB.2.1).1 y hy; omega
      refine ih (pre ++ [x]) ((A ++ [x.f0]) ++ B) _ e1 (by simp) ?_ ?_
      · have : ((A ++ [x.f0]) ++ B).Perm (o ++ [x.f0]) := by
          rw [q1, List.append_assoc, List.append_assoc]
          exact List.Perm.append_left A List.perm_append_comm
        refine this.trans ?_
        rw [List.filter_append, List.map_append]
        have hf : ([x].filter (inW k low)).map (·.f0) = [x.f0] := by simp [c]
        rw [hf]
        exact hp.append_right _
      · rw [List.append_assoc]
        refine List.pairwise_append.2 ⟨hsAB.1, List.pairwise_cons.2 ⟨hBge, hsAB.2.1⟩, fun a ha b hb => ?_⟩
        have := q2 a ha
        rcases List.mem_cons.1 hb with rfl | hb
        · omega
        · have := hBge b hb; omega
theorem rwithin (l : List It) (k low : Int) (hl : l.length < 100000) (hlow : -1200000000000000 ≤ low ∧ low ≤ 1200000000000000) : ∃ r, f_pluvialref17_Within.f l k low = some r ∧ r.Perm ((l.filter (inW k low)).map (·.f0)) ∧ r.Pairwise (· ≤ ·) := by
  unfold f_pluvialref17_Within.f
  obtain ⟨r, e, h⟩ := rwithin_l0 l k low hl hlow l [] [] 0 rfl rfl (List.Perm.refl _) List.Pairwise.nil
  rw [e, sb]; exact ⟨r, rfl, h⟩
def BestR (l pre : List It) (k b : Int) : Prop := (b = -1 ∧ ∀ y ∈ pre, ¬ cand l k y) ∨ (∃ (j : Nat) (y : It), b = (j : Int) ∧ j < pre.length ∧ l[j]? = some y ∧ cand l k y ∧ ∀ z ∈ pre, cand l k z → le17 y z)
theorem le17_refl (x : It) : le17 x x := .inr ⟨rfl, Int.le_refl _⟩
theorem rnext_l1 (l : List It) (k : Int) (hl : l.length < 100000) (hR : ∀ x ∈ l, okI x) : ∀ (suf pre : List It) (b i : Int), l = pre ++ suf → i = (pre.length : Int) → BestR l pre k b →
    ∃ b', f_pluvialref17_Next.l1 l k b i = some b' ∧ BestR l l k b' := by
  intro suf
  induction suf with
  | nil =>
    intro pre b i h1 hi hB
    rw [List.append_nil] at h1
    subst h1
    rw [f_pluvialref17_Next.l1, if_neg (by simp [hi])]
    exact ⟨b, rfl, hB⟩
  | cons x suf ih =>
    intro pre b i h1 hi hB
    have hlen : l.length = pre.length + (suf.length + 1) := by rw [h1]; simp
    have hx := hR x (by rw [h1]; simp)
    have hxa : l[pre.length]? = some x := by rw [h1]; simp
    have e1 : l = (pre ++ [x]) ++ suf := by simp [h1]
    have hw := wd_pos k
    have hat := atL_rng (k := k) hx
    have h5 := hx.2.2.2.1
    have hq : Int.tdiv x.f2 (wd k) = x.f2 / wd k := Int.tdiv_eq_ediv_of_nonneg hx.2.2.1
    have hqr : 0 ≤ x.f2 / wd k ∧ x.f2 / wd k ≤ x.f2 := ⟨Int.ediv_nonneg hx.2.2.1 (by omega), Int.ediv_le_self _ hx.2.2.1⟩
    obtain ⟨r, er, hr1, hr2⟩ := rwithin l k (atL k x) hl (by omega)
    have hrl := hr1.length_eq
    rw [List.length_map] at hrl
    have next := fun b hB => ih (pre ++ [x]) b (i + 1) e1 (by simp; omega) hB
    rw [f_pluvialref17_Next.l1, if_pos (by simp; omega), at_mid h1 hi, sb, rwidth, sb, chkB (by omega), sb, hq, wrap64 (n := x.f2 / wd k) (by omega) (by omega), show x.f2 / wd k * wd k = atL k x from rfl, wrap64 (n := atL k x) (by omega) (by omega), er, sb, wrap64 (n := i + 1) (by omega) (by omega)]
    have hb : ((if (decide (x.f1 > k)) = true then (some true) else (some (decide ((r.length : Int) < (2 : Int))))) : Option Bool) = some (decide (¬ (x.f1 ≤ k ∧ 1 < r.length))) := by
      by_cases c : x.f1 > k
      · rw [if_pos (by simpa using c), decide_eq_true (by omega)]
      · rw [if_neg (by simpa using c)]
        by_cases c2 : (r.length : Int) < 2
        · rw [decide_eq_true c2, decide_eq_true (by omega)]
        · rw [decide_eq_false c2, decide_eq_false (by omega)]
    rw [hb, sb]
    by_cases c : x.f1 ≤ k ∧ 1 < r.length
    case neg =>
      have hnc : ¬ cand l k x := fun q => c ⟨q.1, by rw [hrl]; exact q.2⟩
      rw [if_pos (decide_eq_true c), sb]
      refine next b ?_
      rcases hB with ⟨h2, h3⟩ | ⟨j, y, h2, h3, h4, h5, h6⟩
      · exact .inl ⟨h2, fun y hy => by rcases List.mem_append.1 hy with hy | hy; exact h3 y hy; simp at hy; subst hy; exact hnc⟩
      · exact .inr ⟨j, y, h2, by simp; omega, h4, h5, fun z hz hcz => by rcases List.mem_append.1 hz with hz | hz; exact h6 z hz hcz; simp at hz; subst hz; exact absurd hcz hnc⟩
    have hc : cand l k x := ⟨c.1, by rw [← hrl]; exact c.2⟩
    rw [if_neg (by rw [decide_eq_true_eq]; exact fun q => q c)]
    rcases hB with ⟨h2, h3⟩ | ⟨j, y, h2, h3, h4, h5', h6⟩
    · rw [if_pos (by simp; omega), sb, if_pos rfl, sb, sb]
      refine next i (.inr ⟨pre.length, x, hi, by simp, hxa, hc, fun z hz hcz => ?_⟩)
      rcases List.mem_append.1 hz with hz | hz
      · exact absurd hcz (h3 z hz)
      · simp at hz; subst hz; exact le17_refl _
    · have hlt : ((if (decide (x.f2 < y.f2)) = true then (some true) else (if (x.f2 == y.f2) = true then (some (decide (x.f0 < y.f0))) else (some false))) : Option Bool) = some (decide (x.f2 < y.f2 ∨ (x.f2 = y.f2 ∧ x.f0 < y.f0))) := by
        by_cases c1 : x.f2 < y.f2
        · simp [c1]
        · by_cases c2 : x.f2 = y.f2 <;> simp [c1, c2]
      rw [if_neg (by simp; omega), at_nat h2 h4, sb, hlt, sb]
      by_cases c2 : x.f2 < y.f2 ∨ (x.f2 = y.f2 ∧ x.f0 < y.f0)
      · rw [if_pos (decide_eq_true c2), sb, sb]
        refine next i (.inr ⟨pre.length, x, hi, by simp, hxa, hc, fun z hz hcz => ?_⟩)
        rcases List.mem_append.1 hz with hz | hz
        · have := h6 z hz hcz
          unfold le17 at *
          omega
        · simp at hz; subst hz; exact le17_refl _
      · rw [if_neg (by rw [decide_eq_true_eq]; exact c2), sb, sb]
        refine next b (.inr ⟨j, y, h2, by simp; omega, h4, h5', fun z hz hcz => ?_⟩)
        rcases List.mem_append.1 hz with hz | hz
        · exact h6 z hz hcz
        · simp at hz; subst hz
          unfold le17; omega
theorem cand_perm {S l : List It} (hp : S.Perm l) (k : Int) (y : It) : cand S k y ↔ cand l k y := by
  unfold cand
  rw [(hp.filter _).length_eq]
theorem rnext_l0 (l : List It) (hl : l.length < 100000) (hR : ∀ x ∈ l, okI x) : ∀ (m : Nat) (k : Int), k + m = 5 → 0 ≤ k → (∀ j, 0 ≤ j → j < k → ∀ y ∈ l, ¬ cand l j y) →
    (f_pluvialref17_Next.l0 l k = some (.inr ()) ∧ ∀ j, 0 ≤ j → j ≤ 4 → ∀ y ∈ l, ¬ cand l j y) ∨
    ∃ (r : List Int) (k' : Int) (y : It), f_pluvialref17_Next.l0 l k = some (.inl (k', r, true)) ∧ 0 ≤ k' ∧ k' ≤ 4 ∧ y ∈ l ∧ cand l k' y ∧ (∀ z ∈ l, cand l k' z → le17 y z) ∧ r.Perm ((l.filter (inW k' (atL k' y))).map (·.f0)) ∧ r.Pairwise (· ≤ ·) ∧ (∀ j, 0 ≤ j → j < k' → ∀ y ∈ l, ¬ cand l j y) := by
  intro m
  induction m with
  | zero =>
    intro k hk h0 hn
    rw [f_pluvialref17_Next.l0, if_neg (by simp; omega)]
    exact .inl ⟨rfl, fun j g1 g2 => hn j g1 (by omega)⟩
  | succ m ih =>
    intro k hk h0 hn
    rw [f_pluvialref17_Next.l0, if_pos (by simp; omega)]
    obtain ⟨b, eb, hB⟩ := rnext_l1 l k hl hR l [] (-1) 0 rfl rfl (.inl ⟨rfl, by simp⟩)
    rw [eb, sb]
    rcases hB with ⟨rfl, h3⟩ | ⟨j, y, h2, h3, h4, h5, h6⟩
    · rw [if_neg (by simp), wrap64 (by omega) (by omega)]
      exact ih (k + 1) (by omega) (by omega) (fun j g1 g2 => by
        by_cases q : j = k
        · subst q; exact h3
        · exact hn j g1 (by omega))
    · have hy : y ∈ l := List.mem_of_getElem? h4
      have hoy := hR y hy
      have hw := wd_pos k
      have hat := atL_rng (k := k) hoy
      have h5' := hoy.2.2.2.1
      have hq : Int.tdiv y.f2 (wd k) = y.f2 / wd k := Int.tdiv_eq_ediv_of_nonneg hoy.2.2.1
      have hqr : 0 ≤ y.f2 / wd k ∧ y.f2 / wd k ≤ y.f2 := ⟨Int.ediv_nonneg hoy.2.2.1 (by omega), Int.ediv_le_self _ hoy.2.2.1⟩
      obtain ⟨r, er, hr1, hr2⟩ := rwithin l k (atL k y) hl (by omega)
      rw [if_pos (by simp; omega), at_nat h2 h4, sb, rwidth, sb, chkB (by omega), sb, hq, wrap64 (n := y.f2 / wd k) (by omega) (by omega), show y.f2 / wd k * wd k = atL k y from rfl, wrap64 (n := atL k y) (by omega) (by omega), er, sb]
      exact .inr ⟨r, k, y, rfl, h0, by omega, hy, h5, h6, hr1, hr2, hn⟩
theorem next_ref (l : List It) (hl : l.length < 100000) (hR : RightI l) : ∃ (r : List Int) (k : Int) (ok : Bool), f_plan_Next.f (l.map toP) = some (⟨r, k⟩, ok) ∧ f_pluvialref17_Next.f l = some (k, r, ok) ∧ r.length ≤ l.length := by
  obtain ⟨S, s1, s2, s3⟩ := next17 l (by omega) hR.1
  unfold f_pluvialref17_Next.f
  rcases rnext_l0 l hl hR.1 5 0 (by omega) (by omega) (fun j g1 g2 => by omega) with ⟨e1, h1⟩ | ⟨r, k, y, e1, hk0, hk4, hy, hc, hmin, hr1, hr2, hlow⟩
  · rcases s3 with ⟨e2, h2⟩ | ⟨r, k, e2, h2⟩
    · exact ⟨[], 0, false, e2, by rw [e1, sb], by simp⟩
    · obtain ⟨A, x, B, q1, q2, _⟩ := h2.ex
      exact absurd ((cand_perm s1 k x).1 q2) (h1 k h2.k0 h2.k4 x (s1.mem_iff.1 (by rw [q1]; simp)))
  · rcases s3 with ⟨e2, h2⟩ | ⟨r', k', e2, h2⟩
    · exact absurd ((cand_perm s1 k y).2 hc) (h2 k hk0 hk4 y (s1.mem_iff.2 hy))
    · obtain ⟨A, x, B, q1, q2, q3, q4, q5⟩ := h2.ex
      have hxl : x ∈ l := s1.mem_iff.1 (by rw [q1]; simp)
      have hkk : k = k' := by
        rcases Int.lt_trichotomy k k' with h | h | h
        · exact absurd ((cand_perm s1 k y).2 hc) (h2.low k hk0 h y (s1.mem_iff.2 hy))
        · exact h
        · exact absurd ((cand_perm s1 k' x).1 q2) (hlow k' h2.k0 h x hxl)
      subst hkk
      have hyx := hmin x hxl ((cand_perm s1 k x).1 q2)
      have hxy : le17 x y := by
        have hyS : y ∈ A ++ x :: B := by rw [← q1]; exact s1.mem_iff.2 hy
        rcases List.mem_append.1 hyS with h | h
        · exact absurd ((cand_perm s1 k y).2 hc) (q5 y h)
        · rcases List.mem_cons.1 h with rfl | h
          · exact le17_refl _
          · rw [q1] at s2
            exact (List.pairwise_cons.1 (List.pairwise_append.1 s2).2.1).1 y h
      have he : x = y := mem_unique hR.2 hxl hy (by unfold le17 at *; omega)
      subst he
      have hrr : r = r' := ints_unique (hr1.trans (((s1.filter _).map _).symm.trans q3.symm)) hr2 q4
      subst hrr
      refine ⟨r, k, true, e2, by rw [e1, sb], ?_⟩
      have := hr1.length_eq
      rw [List.length_map] at this
      have := List.length_filter_le (inW k (atL k x)) l
      omega
theorem below_l0 (l : List It) (mark : Int) (hl : l.length < 1000000) : ∀ (suf pre : List It) (o : List Int) (i : Int), l = pre ++ suf → i = (pre.length : Int) → o.length ≤ pre.length →
    f_plan_Below.l0 (l.map toP) mark o i = some (o ++ (suf.filter fun x => decide (x.f3 ≤ mark)).map (·.f0)) := by
  intro suf
  induction suf with
  | nil => intro pre o i h1 hi ho; rw [f_plan_Below.l0, if_neg (by rw [h1]; simp [hi])]; simp
  | cons x suf ih =>
    intro pre o i h1 hi ho
    have hlen : l.length = pre.length + (suf.length + 1) := by rw [h1]; simp
    have hm : l.map toP = pre.map toP ++ toP x :: suf.map toP := by rw [h1]; simp
    have e1 : l = (pre ++ [x]) ++ suf := by simp [h1]
    rw [f_plan_Below.l0, if_pos (by simp; omega), at_mid hm (by simp [hi]), sb, show (toP x).f1.f1 = x.f3 from rfl, show (toP x).f0 = x.f0 from rfl, wrap64 (n := i + 1) (by omega) (by omega)]
    by_cases c : x.f3 ≤ mark
    · rw [if_pos (by simpa using c), chkB (by simp; omega), sb, ih (pre ++ [x]) _ (i + 1) e1 (by simp; omega) (by simp; omega)]
      simp [c]
    · rw [if_neg (by simpa using c), sb, ih (pre ++ [x]) _ (i + 1) e1 (by simp; omega) (by simp; omega)]
      simp [c]
theorem below17 (l : List It) (mark : Int) (hl : l.length < 1000000) : ∃ r, f_plan_Below.f (l.map toP) mark = some r ∧ r.Perm ((l.filter fun x => decide (x.f3 ≤ mark)).map (·.f0)) ∧ r.Pairwise (· ≤ ·) := by
  unfold f_plan_Below.f
  have hf : (l.filter fun x => decide (x.f3 ≤ mark)).length ≤ l.length := List.length_filter_le ..
  rw [below_l0 l mark hl l [] [] 0 rfl rfl (by simp), sb, List.nil_append]
  obtain ⟨r, e, h1, h2⟩ := isort ((l.filter fun x => decide (x.f3 ≤ mark)).map (·.f0)) (by rw [List.length_map]; omega)
  rw [e, sb]
  exact ⟨r, rfl, h1, h2⟩
theorem pn_l1 (l : List It) (a1 a2 mark q : Int) (P : List Tplan_Item) (r : List Int) (j : Int) (hl : l.length < 1000000) : ∀ (suf pre : List It) (n i : Int), l = pre ++ suf → i = (pre.length : Int) → 0 ≤ n → n + suf.length < 1000000000 →
    f_pluviallaw17_PlanNext.l1 l a1 a2 mark q P r j n i = some (n + ((suf.filter fun x => decide (x.f0 = q ∧ x.f3 ≤ mark)).length : Int)) := by
  intro suf
  induction suf with
  | nil => intro pre n i h1 hi h0 hn; rw [f_pluviallaw17_PlanNext.l1, if_neg (by rw [h1]; simp [hi])]; simp
  | cons x suf ih =>
    intro pre n i h1 hi h0 hn
    have hlen : l.length = pre.length + (suf.length + 1) := by rw [h1]; simp
    simp only [List.length_cons] at hn
    have hb : ((if (x.f0 == q) = true then (some (decide (x.f3 ≤ mark))) else (some false)) : Option Bool) = some (decide (x.f0 = q ∧ x.f3 ≤ mark)) := by
      by_cases c : x.f0 = q <;> simp [c]
    rw [f_pluviallaw17_PlanNext.l1, if_pos (by simp; omega), at_mid h1 hi, sb, hb, sb, wrap64 (n := i + 1) (by omega) (by omega)]
    by_cases c : x.f0 = q ∧ x.f3 ≤ mark
    · rw [if_pos (decide_eq_true c), sb, wrap64 (by omega) (by omega), ih (pre ++ [x]) (n + 1) (i + 1) (by simp [h1]) (by simp; omega) (by omega) (by omega), List.filter_cons, if_pos (decide_eq_true c), List.length_cons]
      congr 1; omega
    · rw [if_neg (by rw [decide_eq_true_eq]; exact c), sb, ih (pre ++ [x]) n (i + 1) (by simp [h1]) (by simp; omega) h0 (by omega), List.filter_cons, if_neg (by rw [decide_eq_true_eq]; exact c)]
theorem pn_l2 (l : List It) (a1 a2 mark : Int) (P : List Tplan_Item) (r : List Int) (q : Int) (hl : l.length < 1000000) : ∀ (suf pre : List It) (n i : Int), l = pre ++ suf → i = (pre.length : Int) → 0 ≤ n → n + suf.length < 1000000000 →
    f_pluviallaw17_PlanNext.l2 l a1 a2 mark P r q n i = some (n + ((suf.filter fun x => decide (x.f3 ≤ mark)).length : Int)) := by
  intro suf
  induction suf with
  | nil => intro pre n i h1 hi h0 hn; rw [f_pluviallaw17_PlanNext.l2, if_neg (by rw [h1]; simp [hi])]; simp
  | cons x suf ih =>
    intro pre n i h1 hi h0 hn
    have hlen : l.length = pre.length + (suf.length + 1) := by rw [h1]; simp
    simp only [List.length_cons] at hn
    rw [f_pluviallaw17_PlanNext.l2, if_pos (by simp; omega), at_mid h1 hi, sb, wrap64 (n := i + 1) (by omega) (by omega)]
    by_cases c : x.f3 ≤ mark
    · rw [if_pos (decide_eq_true c), sb, wrap64 (by omega) (by omega), ih (pre ++ [x]) (n + 1) (i + 1) (by simp [h1]) (by simp; omega) (by omega) (by omega), List.filter_cons, if_pos (decide_eq_true c), List.length_cons]
      congr 1; omega
    · rw [if_neg (by rw [decide_eq_true_eq]; exact c), sb, ih (pre ++ [x]) n (i + 1) (by simp [h1]) (by simp; omega) h0 (by omega), List.filter_cons, if_neg (by rw [decide_eq_true_eq]; exact c)]
theorem one_filter {l : List It} (hd : l.Pairwise (fun a b => a.f0 ≠ b.f0)) {y : It} (hy : y ∈ l) (p : It → Bool) (hp : p y = true) (hq : ∀ x ∈ l, p x = true → x.f0 = y.f0) : (l.filter p).length = 1 := by
  induction l with
  | nil => simp at hy
  | cons z l ih =>
    have h := List.pairwise_cons.1 hd
    by_cases e : y = z
    · subst e
      rw [List.filter_cons, if_pos hp, List.length_cons]
      have : l.filter p = [] := List.filter_eq_nil_iff.2 (fun x hx hpx => h.1 x hx (hq x (by simp [hx]) hpx).symm)
      rw [this]; rfl
    · have hyl : y ∈ l := by
        rcases List.mem_cons.1 hy with q | q
        · exact absurd q e
        · exact q
      have hz : p z = false := by
        cases c : p z with
        | false => rfl
        | true => exact absurd (hq z (by simp) c) (h.1 y hyl)
      rw [List.filter_cons, if_neg (by rw [hz]; simp)]
      exact ih h.2 hyl (fun x hx => hq x (by simp [hx]))
theorem pn_l0 (l : List It) (a1 a2 mark : Int) (P : List Tplan_Item) (hl : l.length ≤ 60) (hd : l.Pairwise (fun a b => a.f0 ≠ b.f0)) (r : List Int) (hr : r.Perm ((l.filter fun x => decide (x.f3 ≤ mark)).map (·.f0))) (hs : r.Pairwise (· < ·)) (hrl : r.length ≤ 60) : ∀ (suf pre : List Int) (n i : Int), r = pre ++ suf → i = (pre.length : Int) → n = (pre.length : Int) →
    f_pluviallaw17_PlanNext.l0 l a1 a2 mark P r n i = some (.inr (r.length : Int)) := by
  intro suf
  induction suf with
  | nil => intro pre n i h1 hi hn; rw [List.append_nil] at h1; subst h1; rw [f_pluviallaw17_PlanNext.l0, if_neg (by simp [hi]), hn]
  | cons q suf ih =>
    intro pre n i h1 hi hn
    have hlen : r.length = pre.length + (suf.length + 1) := by rw [h1]; simp
    obtain ⟨y, hy, hyq⟩ := List.mem_map.1 (hr.mem_iff.1 (show q ∈ r by rw [h1]; simp))
    obtain ⟨hy1, hy2⟩ := List.mem_filter.1 hy
    have hy3 : y.f3 ≤ mark := by simpa using hy2
    have hcount := one_filter hd hy1 (fun x => decide (x.f0 = q ∧ x.f3 ≤ mark)) (decide_eq_true ⟨hyq, hy3⟩) (fun x hx hpx => by rw [(of_decide_eq_true hpx).1, hyq])
    rw [f_pluviallaw17_PlanNext.l0, if_pos (by simp; omega), at_mid h1 hi, sb, wrap64 (n := i + 1) (by omega) (by omega)]
    have hb : ((if (decide (i > (0 : Int))) = true then ((at? r (IntKind.i64.wrap (i - (1 : Int)))) >>= fun b4629 => some (decide (b4629 ≥ q))) else (some false)) : Option Bool) = some false := by
      rcases List.eq_nil_or_concat pre with rfl | ⟨p', p, rfl⟩
      · rw [if_neg (by simp at hi ⊢; omega)]
      · rw [List.concat_eq_append] at *
        simp only [List.length_append, List.length_singleton] at hi hlen
        rw [h1] at hs
        have := (List.pairwise_append.1 hs).2.2 p (by simp) q (by simp)
        rw [if_pos (by simp; omega), wrap64 (by omega) (by omega), at_mid (pre := p') (suf := q :: suf) (x := p) (by rw [h1]; simp) (by omega), sb]
        simp; omega
    rw [hb, sb, if_neg (by simp), pn_l1 l a1 a2 mark q P r i (by omega) l [] n 0 rfl rfl (by omega) (by omega), sb, hcount]
    exact ih (pre ++ [q]) _ (i + 1) (by simp [h1]) (by simp; omega) (by simp; omega)
theorem strict_of {r : List Int} (hs : r.Pairwise (· ≤ ·)) (hn : r.Nodup) : r.Pairwise (· < ·) := (hs.and hn).imp (fun {a b} ⟨h1, h2⟩ => by have : a ≠ b := h2; omega)
theorem planNext_R (l : List It) (level low mark : Int) (hl : l.length ≤ maxLen ∧ ∀ y ∈ l, Rpluvialref17_Item y) (h1 : Rng 0 256 level) (h2 : I64 low) (h3 : I64 mark) :
    f_pluviallaw17_PlanNext.f l level low mark = some true := by
  unfold f_pluviallaw17_PlanNext.f
  by_cases g1 : 60 < l.length
  · rw [if_pos (by simp; omega), sb, if_pos rfl, awake17, sb]
  rw [if_neg (by simp; omega)]
  rcases right17 l (by omega) (fun x hx => (hl.2 x hx).r2) with ⟨hR, e⟩ | ⟨hR, e⟩
  case inr => rw [e, sb, if_pos (show (!false) = true from rfl), sb, if_pos rfl, awake17, sb]
  rw [e, sb, if_neg (by simp)]
  by_cases g2 : low > 1125899906842624
  · rw [if_pos (by simpa using g2), sb, if_pos rfl, awake17, sb]
  rw [if_neg (by simpa using g2), sb]
  by_cases g3 : low < -1125899906842624
  · rw [if_pos (by simpa using g3), awake17, sb]
  rw [if_neg (by simpa using g3), to17 l (by omega), sb]
  obtain ⟨r, k, ok, e1, e2, hrl⟩ := next_ref l (by omega) hR
  obtain ⟨ap, ea, er⟩ : ∃ ap, f_plan_Apart.f (l.map toP) = some ap ∧ f_pluvialref17_Apart.f l = some ap := by
    rcases papart l (by omega) hR.1 with ⟨a, h⟩ | ⟨a, h⟩
    · rcases rapart l (by omega) with ⟨b, _⟩ | ⟨_, h'⟩
      · exact ⟨true, a, b⟩
      · exact absurd h h'
    · rcases rapart l (by omega) with ⟨_, h'⟩ | ⟨b, _⟩
      · exact absurd h' h
      · exact ⟨false, a, b⟩
  rw [e1, sb, e2, sb]
  dsimp only
  rw [if_neg (by simp), if_neg (by simp), ints17 _ _ (by omega), sb, if_neg (by simp), ea, sb, er, sb, sb, if_neg (by simp)]
  obtain ⟨bl, eb, hb1, hb2⟩ := below17 l mark (by omega)
  have hf : (l.filter fun x => decide (x.f3 ≤ mark)).length ≤ l.length := List.length_filter_le ..
  have hbl := hb1.length_eq
  rw [List.length_map] at hbl
  have hnd : bl.Nodup := hb1.nodup_iff.2 ((show (l.map (·.f0)).Nodup by rw [List.Nodup, List.pairwise_map]; exact hR.2).sublist ((List.filter_sublist).map _))
  have hlv := h1.1
  have hlv2 := h1.2
  have hk : IntKind.i64.wrap (Int.tmod level 5) = level % 5 := by
    rw [Int.tmod_eq_emod_of_nonneg hlv, wrap64 (by omega) (by omega)]
  obtain ⟨w1, ew1, p1, s1⟩ := within17 l (level % 5) low (by omega) (by omega)
  obtain ⟨w2, ew2, p2, s2⟩ := rwithin l (level % 5) low (by omega) (by omega)
  have hww : w1 = w2 := ints_unique (p1.trans p2.symm) s1 s2
  subst hww
  have hwl := p1.length_eq
  rw [List.length_map] at hwl
  have := List.length_filter_le (inW (level % 5) low) l
  rw [eb, sb, pn_l0 l level low mark _ (by omega) hR.2 bl hb1 (strict_of hb2 hnd) (by omega) bl [] 0 0 rfl rfl rfl, sb]
  dsimp only
  rw [pn_l2 l level low mark _ bl _ (by omega) l [] 0 0 rfl rfl (by omega) (by omega), sb, awake17, sb, if_pos rfl, hk, ew1, sb, ew2, sb, ints17 _ _ (by omega), sb, if_pos (by simp), if_pos (by simp; omega), sb]
  simp; omega
end Go.Proofs.Ytfkppdcfgmgllaa.PvGD2
