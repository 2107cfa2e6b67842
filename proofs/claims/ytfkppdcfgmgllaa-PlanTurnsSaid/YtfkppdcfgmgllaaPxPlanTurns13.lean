import Derived.Test.YtfkppdcfgmgllaaPxPlanTurns12
set_option linter.unusedVariables false
namespace Go.Proofs.Ytfkppdcfgmgllaa.PvGD1
open Go Go.Pv Go.Pv.GS
def iLt (a b : Int) : Bool := decide (a < b)
theorem iLt_swo : SWO iLt := ⟨fun a b h => by simp [iLt] at *; omega, fun a b c h1 h2 => by simp [iLt] at *; omega⟩
theorem iCmp : CmpB f_cmp_Less_int.f iLt := fun a b => ⟨_, by unfold f_cmp_Less_int.f f_cmp_isNaN_int.f; simp [sb]; rfl, by simp [iLt]⟩
theorem isort_inst : f_slices_Sort_int.f = oSortF.f f_cmp_Less_int.f := by kernel_rfl
theorem isort (l : List Int) (hl : l.length < 1000000000) : ∃ r, f_slices_Sort_int.f l = some r ∧ r.Perm l ∧ r.Pairwise (fun a b => a ≤ b) := by
  obtain ⟨r, e, h1, h2⟩ := o_sortF iCmp iLt_swo l hl
  rw [isort_inst]
  exact ⟨r, e, h1, h2.imp (fun h => by simp [iLt] at h; exact h)⟩
end Go.Proofs.Ytfkppdcfgmgllaa.PvGD1
set_option linter.unusedVariables false
set_option linter.unusedSimpArgs false
namespace Go.Proofs.Ytfkppdcfgmgllaa.PvGD1
open Go Go.Pv Go.Pv.GS
theorem cmp64 (a b : Int) : f_cmp_Compare_int64.f a b = some (if a < b then -1 else if a > b then 1 else 0) := by
  unfold f_cmp_Compare_int64.f f_cmp_isNaN_int64.f
  by_cases h1 : a < b
  · simp [h1]
  · by_cases h2 : b < a
    · simp [h1, h2]
    · simp [h1, h2]
theorem cmpI (a b : Int) : f_cmp_Compare_int.f a b = some (if a < b then -1 else if a > b then 1 else 0) := by
  unfold f_cmp_Compare_int.f f_cmp_isNaN_int.f
  by_cases h1 : a < b
  · simp [h1]
  · by_cases h2 : b < a
    · simp [h1, h2]
    · simp [h1, h2]
theorem or2p (a b : Int) : f_cmp_Or_int.f [a, b] = some (if a ≠ 0 then a else b) := by
  have w1 : IntKind.i64.wrap ((0 : Int) + 1) = 1 := by decide
  have w2 : IntKind.i64.wrap ((1 : Int) + 1) = 2 := by decide
  unfold f_cmp_Or_int.f
  rw [f_cmp_Or_int.l0, if_pos (by simp), show at? [a, b] 0 = some a from rfl, sb]
  by_cases ha : a = 0
  · subst ha
    rw [if_neg (by simp), w1, f_cmp_Or_int.l0, if_pos (by simp), show at? [0, b] 1 = some b from rfl, sb]
    by_cases hb : b = 0
    · subst hb
      rw [if_neg (by simp), w2, f_cmp_Or_int.l0, if_neg (by simp)]; rfl
    · rw [if_pos (by simpa using hb)]; simp [hb]
  · rw [if_pos (by simpa using ha)]; simp [ha]
def pLt (a b : Tplan_Item) : Bool := decide (a.f1.f0 < b.f1.f0) || (decide (a.f1.f0 = b.f1.f0) && decide (a.f0 < b.f0))
theorem pLt_swo : SWO pLt := ⟨fun a b h => by simp [pLt] at *; omega, fun a b c h1 h2 => by simp [pLt] at *; omega⟩
theorem pCmp : Cmp f_plan_sorted_1.f pLt := fun a b => by
  refine ⟨_, by unfold f_plan_sorted_1.f; rw [cmp64, sb, cmpI, sb, or2p, sb], ?_⟩
  simp only [pLt]
  by_cases h1 : a.f1.f0 < b.f1.f0
  · simp [h1]
  · by_cases h2 : b.f1.f0 < a.f1.f0
    · have h3 : ¬ a.f1.f0 = b.f1.f0 := by omega
      simp [h1, h2, h3]
    · have h3 : a.f1.f0 = b.f1.f0 := by omega
      by_cases h4 : a.f0 < b.f0
      · simp [h1, h2, h3, h4]
      · by_cases h5 : b.f0 < a.f0 <;> simp [h1, h2, h3, h4, h5]
theorem psort_inst : f_slices_SortFunc_plan_Item_plan_sorted_1.f = SortF.f f_plan_sorted_1.f := by kernel_rfl
def le17 (a b : It) : Prop := a.f2 < b.f2 ∨ (a.f2 = b.f2 ∧ a.f0 ≤ b.f0)
theorem sorted17 (l : List It) (hl : l.length < 1000000) : ∃ S : List It, f_plan_sorted.f (l.map toP) = some (S.map toP) ∧ S.Perm l ∧ S.Pairwise le17 := by
  unfold f_plan_sorted.f f_slices_Clone_plan_Item.f
  rw [chkB (by simp; omega), sb, psort_inst]
  obtain ⟨s, e, h1, h2⟩ := sortF pCmp pLt_swo (l.map toP) (by simp; omega)
  rw [e, sb]
  refine ⟨s.map ofP, by rw [List.map_map, show toP ∘ ofP = id from rfl, List.map_id], ?_, ?_⟩
  · have := h1.map ofP
    rw [List.map_map, show ofP ∘ toP = id from rfl, List.map_id] at this
    exact this
  · rw [List.pairwise_map]
    exact h2.imp (fun {a b} h => by
      simp only [pLt, Bool.or_eq_false_iff, decide_eq_false_iff_not, Bool.and_eq_false_iff] at h
      show a.f1.f0 < b.f1.f0 ∨ (a.f1.f0 = b.f1.f0 ∧ a.f0 ≤ b.f0)
      omega)
theorem sort_unique {α : Type} {r : α → α → Prop} (hr : ∀ a b, r a b → r b a → a = b) : ∀ {A B : List α}, A.Perm B → A.Pairwise r → B.Pairwise r → A = B
  | [], B, hp, _, _ => (List.Perm.eq_nil hp.symm).symm
  | x :: A, [], hp, _, _ => absurd hp.length_eq (by simp)
  | x :: A, y :: B, hp, hA, hB => by
    have hA' := List.pairwise_cons.1 hA
    have hB' := List.pairwise_cons.1 hB
    have e : x = y := by
      rcases List.mem_cons.1 (hp.mem_iff.1 (List.mem_cons_self (a := x) (l := A))) with q | q
      · exact q
      · rcases List.mem_cons.1 (hp.mem_iff.2 (List.mem_cons_self (a := y) (l := B))) with p | p
        · exact p.symm
        · exact hr x y (hA'.1 y p) (hB'.1 x q)
    subst e
    rw [sort_unique hr (List.Perm.cons_inv hp) hA'.2 hB'.2]
theorem sorted_eq {A B : List It} (hp : A.Perm B) (hd : A.Pairwise (fun a b => a.f0 ≠ b.f0)) (hA : A.Pairwise le17) (hB : B.Pairwise le17) : A = B := by
  have key : ∀ {C : List It}, C.Pairwise (fun a b => a.f0 ≠ b.f0) → C.Pairwise le17 → C.Pairwise (fun a b => le17 a b ∧ a.f0 ≠ b.f0) := fun h1 h2 => h2.and h1
  have hd' : B.Pairwise (fun a b => a.f0 ≠ b.f0) := (hp.pairwise_iff (fun h => fun e => h e.symm)).1 hd
  exact sort_unique (r := fun a b => le17 a b ∧ a.f0 ≠ b.f0) (fun a b h1 h2 => by
    obtain ⟨p, n⟩ := h1
    obtain ⟨q, _⟩ := h2
    unfold le17 at p q
    omega) hp (key hd hA) (key hd' hB)
def inW (k low : Int) (x : It) : Bool := decide (low ≤ x.f2 ∧ x.f3 ≤ low + wd k)
theorem within_l0 (S : List It) (k low : Int) (hl : S.length < 1000000) (hlow : -1200000000000000 ≤ low ∧ low ≤ 1200000000000000) : ∀ (suf pre : List It) (o : List Int) (i : Int), S = pre ++ suf → i = (pre.length : Int) → o.length ≤ pre.length →
    f_plan_Within.l0 (S.map toP) k low o i = some (o ++ (suf.filter (inW k low)).map (·.f0)) := by
  intro suf
  have hw := wd_pos k
  induction suf with
  | nil => intro pre o i h1 hi ho; rw [f_plan_Within.l0, if_neg (by rw [h1]; simp [hi])]; simp
  | cons x suf ih =>
    intro pre o i h1 hi ho
    have hlen : S.length = pre.length + (suf.length + 1) := by rw [h1]; simp
    have hm : S.map toP = pre.map toP ++ toP x :: suf.map toP := by rw [h1]; simp
    have e1 : S = (pre ++ [x]) ++ suf := by simp [h1]
    rw [f_plan_Within.l0, if_pos (by simp; omega), at_mid hm (by simp [hi]), sb, show (toP x).f1.f0 = x.f2 from rfl, show (toP x).f1.f1 = x.f3 from rfl, show (toP x).f0 = x.f0 from rfl, bwidth, sb, bwd, wrap64 (n := low + wd k) (by omega) (by omega), wrap64 (n := i + 1) (by omega) (by omega)]
    have hb : ((if (decide (x.f2 ≥ low)) = true then (some (decide (x.f3 ≤ low + wd k))) else (some false)) : Option Bool) = some (inW k low x) := by
      unfold inW
      by_cases c : low ≤ x.f2 <;> simp [c]
    rw [hb, sb]
    cases c : inW k low x with
    | true =>
      rw [if_pos rfl, chkB (by simp; omega), sb, ih (pre ++ [x]) _ (i + 1) e1 (by simp; omega) (by simp; omega)]
      simp [c]
    | false =>
      rw [if_neg (by simp), sb, ih (pre ++ [x]) _ (i + 1) e1 (by simp; omega) (by simp; omega)]
      simp [c]
theorem within17 (S : List It) (k low : Int) (hl : S.length < 1000000) (hlow : -1200000000000000 ≤ low ∧ low ≤ 1200000000000000) : ∃ r, f_plan_Within.f (S.map toP) k low = some r ∧ r.Perm ((S.filter (inW k low)).map (·.f0)) ∧ r.Pairwise (· ≤ ·) := by
  unfold f_plan_Within.f
  have hf : (S.filter (inW k low)).length ≤ S.length := List.length_filter_le ..
  rw [within_l0 S k low hl hlow S [] [] 0 rfl rfl (by simp), sb, List.nil_append]
  obtain ⟨r, e, h1, h2⟩ := isort ((S.filter (inW k low)).map (·.f0)) (by rw [List.length_map]; omega)
  rw [e, sb]
  exact ⟨r, rfl, h1, h2⟩
def cand (S : List It) (k : Int) (y : It) : Prop := y.f1 ≤ k ∧ 1 < (S.filter (inW k (atL k y))).length
structure NextR (S : List It) (r : List Int) (k : Int) : Prop where
  k0 : 0 ≤ k
  k4 : k ≤ 4
  ex : ∃ A x B, S = A ++ x :: B ∧ cand S k x ∧ r.Perm ((S.filter (inW k (atL k x))).map (·.f0)) ∧ r.Pairwise (· ≤ ·) ∧ ∀ y ∈ A, ¬ cand S k y
  low : ∀ j, 0 ≤ j → j < k → ∀ y ∈ S, ¬ cand S j y
theorem next_l1 (S : List It) (k : Int) (hl : S.length < 1000000) (hR : ∀ x ∈ S, okI x) : ∀ (suf pre : List It) (i : Int), S = pre ++ suf → i = (pre.length : Int) → (∀ y ∈ pre, ¬ cand S k y) →
    (f_plan_Next.l1 (S.map toP) k i = some (.inr ()) ∧ ∀ y ∈ S, ¬ cand S k y) ∨ (∃ r, f_plan_Next.l1 (S.map toP) k i = some (.inl (⟨r, k⟩, true)) ∧ ∃ A x B, S = A ++ x :: B ∧ cand S k x ∧ r.Perm ((S.filter (inW k (atL k x))).map (·.f0)) ∧ r.Pairwise (· ≤ ·) ∧ ∀ y ∈ A, ¬ cand S k y) := by
  intro suf
  induction suf with
  | nil =>
    intro pre i h1 hi hn
    rw [List.append_nil] at h1
    subst h1
    rw [f_plan_Next.l1, if_neg (by simp [hi])]
    exact .inl ⟨rfl, hn⟩
  | cons x suf ih =>
    intro pre i h1 hi hn
    have hlen : S.length = pre.length + (suf.length + 1) := by rw [h1]; simp
    have hm : S.map toP = pre.map toP ++ toP x :: suf.map toP := by rw [h1]; simp
    have hx := hR x (by rw [h1]; simp)
    have hat := atL_rng (k := k) hx
    have h5 := hx.2.2.2.1
    obtain ⟨r, er, hr1, hr2⟩ := within17 S k (atL k x) hl (by omega)
    have hrl := hr1.length_eq
    rw [List.length_map] at hrl
    rw [f_plan_Next.l1, if_pos (by simp; omega), at_mid hm (by simp [hi]), sb, show (toP x).f1.f0 = x.f2 from rfl, show (toP x).f1.f2 = x.f1 from rfl, blow, sb, atL_low hx, er, sb, wrap64 (n := i + 1) (by omega) (by omega)]
    have hb : ((if (decide (x.f1 ≤ k)) = true then (some (decide ((r.length : Int) > (1 : Int)))) else (some false)) : Option Bool) = some (decide (x.f1 ≤ k ∧ 1 < r.length)) := by
      by_cases c : x.f1 ≤ k
      · rw [if_pos (by simpa using c)]; simp [c]; omega
      · simp [c]
    rw [hb, sb]
    by_cases c : x.f1 ≤ k ∧ 1 < r.length
    · rw [if_pos (decide_eq_true c)]
      exact .inr ⟨r, rfl, pre, x, suf, h1, ⟨c.1, by rw [← hrl]; exact c.2⟩, hr1, hr2, hn⟩
    · rw [if_neg (by rw [decide_eq_true_eq]; exact c)]
      exact ih (pre ++ [x]) (i + 1) (by simp [h1]) (by simp; omega) (fun y hy => by
        rcases List.mem_append.1 hy with hy | hy
        · exact hn y hy
        · simp at hy; subst hy; intro q; exact c ⟨q.1, by rw [hrl]; exact q.2⟩)
theorem next_l0 (S : List It) (hl : S.length < 1000000) (hR : ∀ x ∈ S, okI x) : ∀ (m : Nat) (k : Int), k + m = 5 → 0 ≤ k → (∀ j, 0 ≤ j → j < k → ∀ y ∈ S, ¬ cand S j y) →
    (f_plan_Next.l0 (S.map toP) k = some (.inr ()) ∧ ∀ j, 0 ≤ j → j ≤ 4 → ∀ y ∈ S, ¬ cand S j y) ∨ ∃ r k', f_plan_Next.l0 (S.map toP) k = some (.inl (⟨r, k'⟩, true)) ∧ NextR S r k' := by
  intro m
  induction m with
  | zero =>
    intro k hk h0 hn
    rw [f_plan_Next.l0, if_neg (by simp; omega)]
    exact .inl ⟨rfl, fun j g1 g2 => hn j g1 (by omega)⟩
  | succ m ih =>
    intro k hk h0 hn
    rw [f_plan_Next.l0, if_pos (by simp; omega)]
    rcases next_l1 S k hl hR S [] 0 rfl rfl (by simp) with ⟨e, h⟩ | ⟨r, e, h⟩
    · rw [e, sb, wrap64 (by omega) (by omega)]
      exact ih (k + 1) (by omega) (by omega) (fun j g1 g2 => by
        by_cases q : j = k
        · subst q; exact h
        · exact hn j g1 (by omega))
    · rw [e, sb]
      exact .inr ⟨r, k, rfl, h0, by omega, h, hn⟩
theorem next17 (l : List It) (hl : l.length < 1000000) (hR : ∀ x ∈ l, okI x) : ∃ S : List It, S.Perm l ∧ S.Pairwise le17 ∧
    ((f_plan_Next.f (l.map toP) = some (⟨[], 0⟩, false) ∧ ∀ j, 0 ≤ j → j ≤ 4 → ∀ y ∈ S, ¬ cand S j y) ∨ ∃ r k, f_plan_Next.f (l.map toP) = some (⟨r, k⟩, true) ∧ NextR S r k) := by
  unfold f_plan_Next.f
  obtain ⟨S, e, h1, h2⟩ := sorted17 l hl
  refine ⟨S, h1, h2, ?_⟩
  have hlen := h1.length_eq
  rw [e, sb]
  rcases next_l0 S (by omega) (fun x hx => hR x (h1.mem_iff.1 hx)) 5 0 (by omega) (by omega) (fun j g1 g2 => by omega) with ⟨g, h⟩ | ⟨r, k, g, h⟩
  · rw [g, sb]; exact .inl ⟨rfl, h⟩
  · rw [g, sb]; exact .inr ⟨r, k, rfl, h⟩
end Go.Proofs.Ytfkppdcfgmgllaa.PvGD1
set_option linter.unusedVariables false
set_option linter.unusedSimpArgs false
namespace Go.Proofs.Ytfkppdcfgmgllaa.PvGD1
open Go Go.Pv Go.Pv.GS
def ov (x y : It) : Prop := x.f2 < y.f3 ∧ y.f2 < x.f3
theorem ov_symm {x y : It} (h : ov x y) : ov y x := ⟨h.2, h.1⟩
def NoOv (l : List It) : Prop := l.Pairwise (fun x y => ¬ ov x y)
theorem NoOv.perm {a b : List It} (hp : a.Perm b) : NoOv a ↔ NoOv b := hp.pairwise_iff (fun h q => h (ov_symm q))
theorem two_mem {l : List It} {x y : It} (hx : x ∈ l) (hy : y ∈ l) (h : x.f0 ≠ y.f0) : 1 < l.length := by
  match l with
  | [] => simp at hx
  | [z] => simp at hx hy; rw [hx, hy] at h; exact absurd rfl h
  | _ :: _ :: _ => simp
theorem wd0 : wd 0 = 64 := rfl
theorem wd1 : wd 1 = 256 := rfl
theorem wd2 : wd 2 = 1024 := rfl
theorem wd3 : wd 3 = 4096 := rfl
theorem wd4 : wd 4 = 16384 := rfl
theorem ov_in {x y : It} (hx : okI x) (hy : okI y) (hle : x.f1 ≤ y.f1) (h : ov x y) : y.f2 ≤ x.f2 ∧ x.f3 ≤ y.f3 := by
  obtain ⟨a1, a2, a3, a4, a5, a6⟩ := hx
  obtain ⟨b1, b2, b3, b4, b5, b6⟩ := hy
  obtain ⟨h1, h2⟩ := h
  generalize x.f1 = j at *
  generalize y.f1 = k at *
  rcases (show k = 0 ∨ k = 1 ∨ k = 2 ∨ k = 3 ∨ k = 4 by omega) with rfl | rfl | rfl | rfl | rfl <;>
  rcases (show j = 0 ∨ j = 1 ∨ j = 2 ∨ j = 3 ∨ j = 4 by omega) with rfl | rfl | rfl | rfl | rfl <;>
  first | (exfalso; omega) | (simp only [wd0, wd1, wd2, wd3, wd4] at *; omega)
theorem atL_self {x : It} (hx : okI x) : atL x.f1 x = x.f2 := by
  unfold atL
  have := Int.mul_ediv_add_emod x.f2 (wd x.f1)
  rw [hx.2.2.2.2.1, Int.mul_comm] at this
  omega
theorem no_ov {S : List It} (hR : RightI S) (hn : ∀ j, 0 ≤ j → j ≤ 4 → ∀ y ∈ S, ¬ cand S j y) : NoOv S := by
  have key : ∀ x y : It, x ∈ S → y ∈ S → x.f0 ≠ y.f0 → x.f1 ≤ y.f1 → ¬ ov x y := fun x y hx hy hxy hle ho => by
    have ox := hR.1 x hx
    have oy := hR.1 y hy
    obtain ⟨i1, i2⟩ := ov_in ox oy hle ho
    refine hn y.f1 oy.1 oy.2.1 y hy ⟨Int.le_refl _, two_mem (x := x) (y := y) ?_ ?_ hxy⟩
    · refine List.mem_filter.2 ⟨hx, ?_⟩
      rw [atL_self oy]
      exact decide_eq_true ⟨i1, by have := oy.2.2.2.2.2; omega⟩
    · refine List.mem_filter.2 ⟨hy, ?_⟩
      rw [atL_self oy]
      exact decide_eq_true ⟨Int.le_refl _, by have := oy.2.2.2.2.2; omega⟩
  refine List.Pairwise.imp_of_mem (fun {a b} ha hb h => ?_) hR.2
  rcases Int.le_total a.f1 b.f1 with q | q
  · exact key a b ha hb h q
  · exact fun ho => key b a hb ha (fun e => h e.symm) q (ov_symm ho)
theorem papart_l0 (S : List It) (hl : S.length < 1000000) (hR : ∀ x ∈ S, okI x) (hs : S.Pairwise le17) : ∀ (suf pre : List It) (high i : Int), S = pre ++ suf → i = (pre.length : Int) → NoOv pre → (∀ y ∈ pre, y.f3 ≤ high) → ((pre = [] ∧ high = 0) ∨ ∃ y ∈ pre, y.f3 = high) → 0 ≤ high →
    (f_plan_Apart.l0 (S.map toP) high i = some (.inr ()) ∧ NoOv S) ∨ (f_plan_Apart.l0 (S.map toP) high i = some (.inl false) ∧ ¬ NoOv S) := by
  intro suf
  induction suf with
  | nil =>
    intro pre high i h1 hi hN hh he h0
    rw [List.append_nil] at h1
    subst h1
    rw [f_plan_Apart.l0, if_neg (by simp [hi])]
    exact .inl ⟨rfl, hN⟩
  | cons x suf ih =>
    intro pre high i h1 hi hN hh he h0
    have hlen : S.length = pre.length + (suf.length + 1) := by rw [h1]; simp
    have hm : S.map toP = pre.map toP ++ toP x :: suf.map toP := by rw [h1]; simp
    have hx := hR x (by rw [h1]; simp)
    have hw := wd_pos x.f1
    have hx3 := hx.2.2.2.2.2
    have e1 : S = (pre ++ [x]) ++ suf := by simp [h1]
    rw [f_plan_Apart.l0, if_pos (by simp; omega), at_mid hm (by simp [hi]), sb, show (toP x).f1.f0 = x.f2 from rfl, show (toP x).f1.f1 = x.f3 from rfl, wrap64 (n := i + 1) (by omega) (by omega)]
    have hb : ((if (decide (i > (0 : Int))) = true then (some (decide (x.f2 < high))) else (some false)) : Option Bool) = some (decide (0 < i ∧ x.f2 < high)) := by
      by_cases c : 0 < i <;> simp [c]
    rw [hb, sb]
    have hbef : ∀ y ∈ pre, le17 y x := fun y hy => by
      rw [h1] at hs; exact (List.pairwise_append.1 hs).2.2 y hy x (by simp)
    by_cases c : 0 < i ∧ x.f2 < high
    · rw [if_pos (decide_eq_true c)]
      refine .inr ⟨rfl, fun hNS => ?_⟩
      obtain ⟨y, hy, hy3⟩ : ∃ y ∈ pre, y.f3 = high := by
        rcases he with ⟨e, _⟩ | he
        · rw [e] at hi; simp at hi; omega
        · exact he
      rw [h1] at hNS
      have := (List.pairwise_append.1 hNS).2.2 y hy x (by simp)
      refine this ⟨?_, by omega⟩
      have := hbef y hy
      unfold le17 at this
      omega
    · rw [if_neg (by rw [decide_eq_true_eq]; exact c)]
      refine ih (pre ++ [x]) _ (i + 1) e1 (by simp; omega) (List.pairwise_append.2 ⟨hN, List.pairwise_singleton _ _, fun y hy z hz => ?_⟩) (fun y hy => ?_) (.inr ?_) (by split <;> omega)
      · simp at hz; subst hz
        have hpos : 0 < i := by
          have : 0 < pre.length := List.length_pos_of_mem hy
          omega
        have := hh y hy
        rintro ⟨_, q⟩
        omega
      · rcases List.mem_append.1 hy with hy | hy
        · have := hh y hy; split <;> omega
        · simp at hy; subst hy; split <;> omega
      · by_cases q : x.f3 > high
        · rw [if_pos q]; exact ⟨x, by simp, rfl⟩
        · rw [if_neg q]
          obtain ⟨y, hy, hy3⟩ : ∃ y ∈ pre, y.f3 = high := by
            rcases he with ⟨_, e⟩ | he
            · have h2 := hx.2.2.1
              omega
            · exact he
          exact ⟨y, by simp [hy], hy3⟩
theorem papart (l : List It) (hl : l.length < 1000000) (hR : ∀ x ∈ l, okI x) : (f_plan_Apart.f (l.map toP) = some true ∧ NoOv l) ∨ (f_plan_Apart.f (l.map toP) = some false ∧ ¬ NoOv l) := by
  unfold f_plan_Apart.f
  obtain ⟨S, e, h1, h2⟩ := sorted17 l hl
  have hlen := h1.length_eq
  rw [e, sb]
  rcases papart_l0 S (by omega) (fun x hx => hR x (h1.mem_iff.1 hx)) h2 S [] 0 0 rfl rfl List.Pairwise.nil (by simp) (.inl ⟨rfl, rfl⟩) (by omega) with ⟨g, h⟩ | ⟨g, h⟩
  · rw [g, sb]; exact .inl ⟨rfl, (NoOv.perm h1).1 h⟩
  · rw [g, sb]; exact .inr ⟨rfl, fun q => h ((NoOv.perm h1).2 q)⟩
end Go.Proofs.Ytfkppdcfgmgllaa.PvGD1
set_option linter.unusedVariables false
set_option linter.unusedSimpArgs false
namespace Go.Proofs.Ytfkppdcfgmgllaa.PvGD1
open Go Go.Pv Go.Pv.GS
theorem sorted_perm {l t : List It} (hl : l.length < 1000000) (hp : t.Perm l) (hd : l.Pairwise (fun a b => a.f0 ≠ b.f0)) : f_plan_sorted.f (t.map toP) = f_plan_sorted.f (l.map toP) := by
  have hlen := hp.length_eq
  obtain ⟨S, e, h1, h2⟩ := sorted17 l hl
  obtain ⟨T, e', g1, g2⟩ := sorted17 t (by omega)
  have hdS : S.Pairwise (fun a b => a.f0 ≠ b.f0) := (h1.pairwise_iff (fun h => fun e => h e.symm)).2 hd
  have : S = T := sorted_eq (h1.trans (hp.symm.trans g1.symm)) hdS h2 g2
  rw [e, e', this]
theorem next_perm {l t : List It} (hl : l.length < 1000000) (hp : t.Perm l) (hd : l.Pairwise (fun a b => a.f0 ≠ b.f0)) : f_plan_Next.f (t.map toP) = f_plan_Next.f (l.map toP) := by
  unfold f_plan_Next.f; rw [sorted_perm hl hp hd]
theorem papart_perm {l t : List It} (hl : l.length < 1000000) (hp : t.Perm l) (hd : l.Pairwise (fun a b => a.f0 ≠ b.f0)) : f_plan_Apart.f (t.map toP) = f_plan_Apart.f (l.map toP) := by
  unfold f_plan_Apart.f; rw [sorted_perm hl hp hd]
theorem ints_l0 (a b : List Int) (hl : a.length = b.length) (ha : a.length < 1000000000) : ∀ (sa sb' pa pb : List Int) (i : Int), a = pa ++ sa → b = pb ++ sb' → pa.length = pb.length → i = (pa.length : Int) →
    f_pluviallaw17_ints.l0 a b i = some (if sa = sb' then .inr () else .inl false) := by
  intro sa
  induction sa with
  | nil =>
    intro sb' pa pb i h1 h2 h3 hi
    have : sb' = [] := by
      rw [h1, h2] at hl; simp at hl
      exact List.length_eq_zero_iff.1 (by omega)
    subst this
    rw [f_pluviallaw17_ints.l0, if_neg (by rw [h1]; simp [hi])]
    rfl
  | cons x sa ih =>
    intro sb' pa pb i h1 h2 h3 hi
    cases sb' with
    | nil => rw [h1, h2] at hl; simp at hl; omega
    | cons y sb' =>
      have hlen : a.length = pa.length + (sa.length + 1) := by rw [h1]; simp
      rw [f_pluviallaw17_ints.l0, if_pos (by simp; omega), at_mid h1 hi, sb, at_mid h2 (by omega), sb, wrap64 (by omega) (by omega)]
      by_cases e : x = y
      · rw [if_neg (by simpa using e), ih sb' (pa ++ [x]) (pb ++ [y]) (i + 1) (by simp [h1]) (by simp [h2]) (by simp; omega) (by simp; omega)]
        simp [e]
      · rw [if_pos (by simpa using e)]
        simp [e]
theorem ints17 (a b : List Int) (ha : a.length < 1000000000) : f_pluviallaw17_ints.f a b = some (decide (a = b)) := by
  unfold f_pluviallaw17_ints.f
  by_cases h : a.length = b.length
  · rw [if_neg (by simp; omega), ints_l0 a b h ha a b [] [] 0 rfl rfl rfl rfl, sb]
    by_cases e : a = b <;> simp [e]
  · rw [if_pos (by simp; omega)]
    have : a ≠ b := fun e => h (by rw [e])
    simp [this]
theorem turned_perm17 {α : Type} (l r : List α) (b : Nat) (hl : r.length = l.length) (h : ∀ k, k < l.length → r[k]? = l[(k + b) % l.length]?) : r.Perm l := by
  by_cases h0 : l.length = 0
  · rw [List.length_eq_zero_iff.1 h0, List.length_eq_zero_iff.1 (hl.trans h0)]
  have hc : b % l.length < l.length := Nat.mod_lt _ (by omega)
  have : r = l.drop (b % l.length) ++ l.take (b % l.length) := by
    apply List.ext_getElem?
    intro k
    by_cases hk : k < l.length
    · rw [h k hk]
      have e : (k + b) % l.length = (k + b % l.length) % l.length := by rw [Nat.add_mod_mod]
      by_cases h1 : k < l.length - b % l.length
      · rw [List.getElem?_append_left (by simp; omega), List.getElem?_drop, e, Nat.mod_eq_of_lt (by omega)]
        congr 1; omega
      · rw [List.getElem?_append_right (by simp; omega), List.getElem?_take, if_pos (by simp; omega), e, Nat.mod_eq_sub_mod (by omega), Nat.mod_eq_of_lt (by omega)]
        congr 1; simp; omega
    · rw [List.getElem?_eq_none (by omega), List.getElem?_eq_none (by simp; omega)]
  rw [this]
  refine List.perm_append_comm.trans ?_
  rw [List.take_append_drop]
theorem turns_l0 (l : List It) (h : l.length < 1000000) (by_ : Int) (hb : 0 ≤ by_ ∧ by_ < 256) : ∀ (n : Nat) (x : List It) (i : Int), n + x.length = l.length → i = (x.length : Int) →
    ∃ r, f_pluviallaw17_PlanTurns.l0 l by_ x i = some r ∧ r.length = l.length ∧ (∀ k, k < x.length → r[k]? = x[k]?) ∧ ∀ k, x.length ≤ k → k < l.length → r[k]? = l[(k + by_.toNat) % l.length]? := by
  intro n
  induction n with
  | zero =>
    intro x i hm hi
    rw [f_pluviallaw17_PlanTurns.l0, if_neg (by simp; omega)]
    exact ⟨x, rfl, by omega, fun _ _ => rfl, fun k h1 h2 => by omega⟩
  | succ n ih =>
    intro x i hm hi
    have hpos : 0 < l.length := by omega
    have hidx : (x.length + by_.toNat) % l.length < l.length := Nat.mod_lt _ hpos
    have ht : Int.tmod (i + by_) (l.length : Int) = (((x.length + by_.toNat) % l.length : Nat) : Int) := by
      rw [show i + by_ = ((x.length + by_.toNat : Nat) : Int) by omega, Int.tmod_eq_emod_of_nonneg (by omega)]
      rfl
    rw [f_pluviallaw17_PlanTurns.l0, if_pos (by simp; omega), chkB (by omega), wrap64 (n := by_) (by omega) (by omega), wrap64 (n := i + by_) (by omega) (by omega), ht,
      at_nat rfl (List.getElem?_eq_getElem hidx), sb, chkB (by simp; omega), wrap64 (n := i + 1) (by omega) (by omega)]
    obtain ⟨r, e, h1, h2, h3⟩ := ih (x ++ [l[(x.length + by_.toNat) % l.length]]) (i + 1) (by simp; omega) (by simp; omega)
    refine ⟨r, e, h1, fun k hk => ?_, fun k hk hk2 => ?_⟩
    · rw [h2 k (by simp; omega), List.getElem?_append_left hk]
    · by_cases e2 : k = x.length
      · subst e2
        rw [h2 x.length (by simp), List.getElem?_append_right (Nat.le_refl _)]
        simp
      · exact h3 k (by simp; omega) hk2
def OneStep (l : List It) (r : List Int) (k c : Int) : Prop := 0 ≤ c ∧ ∀ x ∈ l, x.f0 ∈ r → x.f2 / wd k = c ∧ x.f1 ≤ k
theorem turns_l2 (l : List It) (hl : l.length < 1000000) (x : It) (hx : okI x) (q : Tplan_Step × Bool) (hr : q.1.f0.length < 1000000) (j c : Int) (hc : 0 ≤ c) (h : x.f0 ∈ q.1.f0 → x.f2 / wd q.1.f1 = c ∧ x.f1 ≤ q.1.f1) : ∀ (suf pre : List Int) (low i : Int), q.1.f0 = pre ++ suf → i = (pre.length : Int) → (low = -1 ∨ low = c) →
    ∃ low', f_pluviallaw17_PlanTurns.l2 l x q j low i = some (.inr low') ∧ (low' = -1 ∨ low' = c) := by
  intro suf
  have hw := wd_pos q.1.f1
  induction suf with
  | nil => intro pre low i h1 hi hlow; rw [f_pluviallaw17_PlanTurns.l2, if_neg (by rw [h1]; simp [hi])]; exact ⟨low, rfl, hlow⟩
  | cons s suf ih =>
    intro pre low i h1 hi hlow
    have hlen : q.1.f0.length = pre.length + (suf.length + 1) := by rw [h1]; simp
    have next := fun low hlow => ih (pre ++ [s]) low (i + 1) (by simp [h1]) (by simp; omega) hlow
    rw [f_pluviallaw17_PlanTurns.l2, if_pos (by simp; omega), at_mid h1 hi, sb, wrap64 (n := i + 1) (by omega) (by omega)]
    by_cases e : x.f0 = s
    · obtain ⟨h2, h3⟩ := h (by rw [h1, e]; simp)
      have hq : Int.tdiv x.f2 (wd q.1.f1) = c := by rw [Int.tdiv_eq_ediv_of_nonneg hx.2.2.1, h2]
      have hcr : c ≤ 1099511627776 := by
        have := Int.ediv_le_self (wd q.1.f1) hx.2.2.1
        have := hx.2.2.2.1
        omega
      rw [if_neg (by simpa using e), rwidth, sb, chkB (by omega), hq, wrap64 (n := c) (by omega) (by omega)]
      have hb : ((if (decide (low ≥ (0 : Int))) = true then (if (c != low) = true then (some true) else (some (decide (x.f1 > (q.1.f1))))) else (some (decide (x.f1 > (q.1.f1))))) : Option Bool) = some false := by
        have h3' : ¬ x.f1 > q.1.f1 := by omega
        rcases hlow with rfl | rfl
        · simp; omega
        · simp [hc]; omega
      rw [hb, sb, if_neg (by simp), sb]
      exact next c (.inr rfl)
    · rw [if_pos (by simpa using e), sb]
      exact next low hlow
theorem turns_l1 (l : List It) (hl : l.length < 1000000) (hR : ∀ x ∈ l, okI x) (q : Tplan_Step × Bool) (hr : q.1.f0.length < 1000000) (c : Int) (h : OneStep l q.1.f0 q.1.f1 c) : ∀ (suf pre : List It) (low i : Int), l = pre ++ suf → i = (pre.length : Int) → (low = -1 ∨ low = c) →
    f_pluviallaw17_PlanTurns.l1 l q low i = some (.inr ()) := by
  intro suf
  induction suf with
  | nil => intro pre low i h1 hi hlow; rw [f_pluviallaw17_PlanTurns.l1, if_neg (by rw [h1]; simp [hi])]
  | cons x suf ih =>
    intro pre low i h1 hi hlow
    have hlen : l.length = pre.length + (suf.length + 1) := by rw [h1]; simp
    have hxm : x ∈ l := by rw [h1]; simp
    obtain ⟨low', e, h2⟩ := turns_l2 l hl x (hR x hxm) q hr i c h.1 (h.2 x hxm) q.1.f0 [] low 0 rfl rfl hlow
    rw [f_pluviallaw17_PlanTurns.l1, if_pos (by simp; omega), at_mid h1 hi, sb, e, sb, wrap64 (n := i + 1) (by omega) (by omega)]
    exact ih (pre ++ [x]) low' (i + 1) (by simp [h1]) (by simp; omega) h2
theorem mem_unique {l : List It} (hd : l.Pairwise (fun a b => a.f0 ≠ b.f0)) {x y : It} (hx : x ∈ l) (hy : y ∈ l) (e : x.f0 = y.f0) : x = y := by
  induction l with
  | nil => simp at hx
  | cons z l ih =>
    have h := List.pairwise_cons.1 hd
    rcases List.mem_cons.1 hx with e1 | hx'
    · rcases List.mem_cons.1 hy with e2 | hy'
      · rw [e1, e2]
      · rw [e1] at e; exact absurd e (h.1 y hy')
    · rcases List.mem_cons.1 hy with e2 | hy'
      · rw [e2] at e; exact absurd e.symm (h.1 x hx')
      · exact ih h.2 hx' hy'
theorem named_in {l S : List It} (hR : RightI l) (hp : S.Perm l) {r : List Int} {k : Int} (h : NextR S r k) : ∃ x0 ∈ l, ∀ x ∈ l, x.f0 ∈ r → inW k (atL k x0) x = true := by
  obtain ⟨A, x0, B, h1, h2, h3, h4, h5⟩ := h.ex
  refine ⟨x0, hp.mem_iff.1 (by rw [h1]; simp), fun x hx hxr => ?_⟩
  obtain ⟨y, hy, hy2⟩ := List.mem_map.1 (h3.mem_iff.1 hxr)
  obtain ⟨y1, y2⟩ := List.mem_filter.1 hy
  have := mem_unique hR.2 (hp.mem_iff.1 y1) hx hy2
  rw [← this]; exact y2
theorem in_grid {x x0 : It} {k : Int} (hx : okI x) (hx0 : okI x0) (hk : 0 ≤ k ∧ k ≤ 4) (h : inW k (atL k x0) x = true) : x.f2 / wd k = x0.f2 / wd k ∧ x.f1 ≤ k ∧ atL k x = atL k x0 := by
  have hw := wd_pos k
  have hw1 := wd_pos x.f1
  obtain ⟨h1, h2⟩ := of_decide_eq_true h
  have h3 := hx.2.2.2.2.2
  have e : x.f2 / wd k = x0.f2 / wd k := by
    unfold atL at h1 h2
    have q1 := Int.le_ediv_of_mul_le (c := wd k) (a := x0.f2 / wd k) (b := x.f2) (by omega) h1
    have q2 : x.f2 / wd k < x0.f2 / wd k + 1 := Int.ediv_lt_of_lt_mul (by omega) (by rw [Int.add_mul]; omega)
    omega
  refine ⟨e, ?_, by unfold atL; rw [e]⟩
  have h4 : wd x.f1 ≤ wd k := by
    have := atL_rng (k := k) hx
    unfold atL at *
    omega
  have a1 := hx.1
  have a2 := hx.2.1
  generalize x.f1 = j at *
  rcases (show k = 0 ∨ k = 1 ∨ k = 2 ∨ k = 3 ∨ k = 4 by omega) with rfl | rfl | rfl | rfl | rfl <;>
  rcases (show j = 0 ∨ j = 1 ∨ j = 2 ∨ j = 3 ∨ j = 4 by omega) with rfl | rfl | rfl | rfl | rfl <;>
  first | omega | (simp only [wd0, wd1, wd2, wd3, wd4] at h4; omega)
theorem planTurns_R (l : List It) (by_ : Int) (hl : l.length ≤ maxLen ∧ ∀ y ∈ l, Rpluvialref17_Item y) (hb : Rng 0 256 by_) :
    f_pluviallaw17_PlanTurns.f l by_ = some true := by
  unfold f_pluviallaw17_PlanTurns.f
  by_cases g1 : 40 < l.length
  · rw [if_pos (by simp; omega), sb, if_pos rfl, awake17, sb]
  rw [if_neg (by simp; omega)]
  by_cases g2 : l.length = 0
  · rw [if_pos (by simp; exact List.length_eq_zero_iff.1 g2), sb, if_pos rfl, awake17, sb]
  rw [if_neg (by simp; intro e; rw [e] at g2; exact g2 rfl)]
  rcases right17 l (by omega) (fun x hx => (hl.2 x hx).r2) with ⟨hR, e⟩ | ⟨hR, e⟩
  case inr => rw [e, sb, sb, if_pos (show (!false) = true from rfl), awake17, sb]
  obtain ⟨t, et, htl, _, htk⟩ := turns_l0 l (by omega) by_ hb l.length [] 0 (by simp) rfl
  have hp := turned_perm17 l t by_.toNat htl (fun k hk => htk k (Nat.zero_le _) hk)
  rw [e, sb, sb, if_neg (by simp), et, sb, to17 l (by omega), sb, to17 t (by omega)]
  obtain ⟨S, s1, s2, s3⟩ := next17 l (by omega) hR.1
  have hSR : ∀ x ∈ S, okI x := fun x hx => hR.1 x (s1.mem_iff.1 hx)
  have hSl := s1.length_eq
  obtain ⟨q, eq, hqlen, hq1, hq2, c, hc⟩ : ∃ q : Tplan_Step × Bool, f_plan_Next.f (l.map toP) = some q ∧ q.1.f0.length < 1000000 ∧ q.2 = decide ((q.1.f0.length : Int) > 1) ∧ (q.2 = false → NoOv l) ∧ ∃ c, OneStep l q.1.f0 q.1.f1 c := by
    rcases s3 with ⟨e, h⟩ | ⟨r, k, e, h⟩
    · refine ⟨_, e, by simp, by simp, fun _ => (NoOv.perm s1).1 (no_ov ⟨hSR, (s1.pairwise_iff (fun h => fun e => h e.symm)).2 hR.2⟩ h), 0, by omega, fun x hx hxr => by simp at hxr⟩
    · obtain ⟨x0, hx0, hin⟩ := named_in hR s1 h
      obtain ⟨A, x1, B, h1, h2, h3, h4, h5⟩ := h.ex
      have hrl := h3.length_eq
      rw [List.length_map] at hrl
      have hfl : (S.filter (inW k (atL k x1))).length ≤ S.length := List.length_filter_le ..
      have h22 := h2.2
      refine ⟨_, e, by show r.length < _; omega, by rw [eq_comm, decide_eq_true_eq]; show (r.length : Int) > 1; omega, fun h => by simp at h, x0.f2 / wd k, Int.ediv_nonneg (hR.1 x0 hx0).2.2.1 (by have := wd_pos k; omega), fun x hx hxr => ?_⟩
      have := in_grid (hR.1 x hx) (hR.1 x0 hx0) ⟨h.k0, h.k4⟩ (hin x hx hxr)
      exact ⟨this.1, this.2.1⟩
  rw [eq, sb, sb, next_perm (by omega) hp hR.2, eq, sb]
  obtain ⟨ap, eap, hap⟩ : ∃ ap, f_plan_Apart.f (l.map toP) = some ap ∧ (NoOv l → ap = true) := by
    rcases papart l (by omega) hR.1 with ⟨e, h⟩ | ⟨e, h⟩
    · exact ⟨_, e, fun _ => rfl⟩
    · exact ⟨_, e, fun q => absurd q h⟩
  have hb1 : ∀ z : Option Bool, z = some false → (z >>= fun x4179 => if x4179 = true then (some false) else ((f_pluviallaw17_PlanTurns.l1 l q (-1) 0) >>= fun oo => match oo with | .inl rr => (some rr) | .inr _ => ((((f_pluviallaw17_awake.f) >>= fun t4290 => if t4290 = true then (if q.2 = true then (some true) else ((some (l.map toP)) >>= fun t4294 => (f_plan_Apart.f t4294) >>= fun t4296 => some t4296)) else (some false)) : Option (Bool)) >>= fun x4298 => some x4298))) = some true := fun z hz => by
    rw [hz, sb, if_neg (by simp), turns_l1 l (by omega) hR.1 q hqlen c hc l [] (-1) 0 rfl rfl (.inl rfl), sb]
    dsimp only
    rw [awake17, sb, if_pos rfl]
    cases hq : q.2 with
    | true => rw [if_pos rfl, sb]
    | false => rw [if_neg (by simp), sb, eap, sb, sb, hap (hq2 hq)]
  refine hb1 _ ?_
  rw [if_neg (by simp), if_neg (by simp), ints17 _ _ (by omega), sb, if_neg (by simp), ← hq1, if_neg (by simp), sb, eap, sb, sb, papart_perm (by omega) hp hR.2, eap, sb]
  simp
end Go.Proofs.Ytfkppdcfgmgllaa.PvGD1
