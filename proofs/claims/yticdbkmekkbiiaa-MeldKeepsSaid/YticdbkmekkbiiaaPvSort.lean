import Derived.Test.YticdbkmekkbiiaaPvPlain
set_option linter.unusedVariables false
set_option linter.unusedSimpArgs false
/-! The stable sort of the package slices, for any elements and any order. -/
namespace Go.Pv.GS
section Defs
variable {α : Type} (cmp : α → α → Option Int)
def insertionSort.l1 (a1 : Int) (a2 : Int) (x0 : Int) (x1 : List α) (x2 : Int) : Option (List α) := ((if (decide (x2 > a1)) = true then ((at? x1 x2) >>= fun b3 => (at? x1 (IntKind.i64.wrap (x2 - (1 : Int)))) >>= fun b4 => (cmp b3 b4) >>= fun t5 => some (decide (t5 < (0 : Int)))) else (some false)) : Option (Bool)) >>= fun x6 => if x6 = true then ((at? x1 (IntKind.i64.wrap (x2 - (1 : Int)))) >>= fun b7 => (at? x1 x2) >>= fun b8 => (at? (x1.set (Int.toNat (x2)) b7) (IntKind.i64.wrap (x2 - (1 : Int)))) >>= fun b9 => insertionSort.l1 a1 a2 x0 ((x1.set (Int.toNat (x2)) b7).set (Int.toNat (IntKind.i64.wrap (x2 - (1 : Int)))) b8) (IntKind.i64.wrap (x2 - (1 : Int)))) else (some x1)
partial_fixpoint
def insertionSort.l0 (a1 : Int) (a2 : Int) (x0 : List α) (x1 : Int) : Option (List α) := if (decide (x1 < a2)) = true then ((insertionSort.l1 cmp a1 a2 x1 x0 x1) >>= fun x2 => insertionSort.l0 a1 a2 x2 (IntKind.i64.wrap (x1 + (1 : Int)))) else (some x0)
partial_fixpoint
def insertionSort.f (a0 : List α) (a1 : Int) (a2 : Int) : Option (List α) := (insertionSort.l0 cmp a1 a2 a0 (IntKind.i64.wrap (a1 + (1 : Int)))) >>= fun x0 => some x0
def swapRange.l0 (a1 : Int) (a2 : Int) (a3 : Int) (x0 : List α) (x1 : Int) : Option (List α) := if (decide (x1 < a3)) = true then ((at? x0 (IntKind.i64.wrap (a2 + x1))) >>= fun b2 => (at? x0 (IntKind.i64.wrap (a1 + x1))) >>= fun b3 => (at? (x0.set (Int.toNat (IntKind.i64.wrap (a1 + x1))) b2) (IntKind.i64.wrap (a2 + x1))) >>= fun b4 => swapRange.l0 a1 a2 a3 ((x0.set (Int.toNat (IntKind.i64.wrap (a1 + x1))) b2).set (Int.toNat (IntKind.i64.wrap (a2 + x1))) b3) (IntKind.i64.wrap (x1 + (1 : Int)))) else (some x0)
partial_fixpoint
def swapRange.f (a0 : List α) (a1 : Int) (a2 : Int) (a3 : Int) : Option (List α) := (swapRange.l0 a1 a2 a3 a0 0) >>= fun x0 => some x0
def rotate.l0 (a2 : Int) (x0 : List α) (x1 : Int) (x2 : Int) : Option ((List α) × Int) := if (x1 != x2) = true then (((if (decide (x1 > x2)) = true then ((swapRange.f x0 (IntKind.i64.wrap (a2 - x1)) a2 x2) >>= fun t3 => some (t3, IntKind.i64.wrap (x1 - x2), x2)) else ((swapRange.f x0 (IntKind.i64.wrap (a2 - x1)) (IntKind.i64.wrap ((IntKind.i64.wrap (a2 + x2)) - x1)) x1) >>= fun t4 => some (t4, x1, IntKind.i64.wrap (x2 - x1)))) : Option ((List α) × Int × Int)) >>= fun oo => match oo with | (x5, x6, x7) => (rotate.l0 a2 x5 x6 x7)) else (some (x0, x1))
partial_fixpoint
def rotate.f (a0 : List α) (a1 : Int) (a2 : Int) (a3 : Int) : Option (List α) := (rotate.l0 a2 a0 (IntKind.i64.wrap (a2 - a1)) (IntKind.i64.wrap (a3 - a2))) >>= fun oo => match oo with | (x0, x1) => ((swapRange.f x0 (IntKind.i64.wrap (a2 - x1)) a2 x1) >>= fun t2 => some t2)
def symMerge.l0 (a0 : List α) (a1 : Int) (x0 : Int) (x1 : Int) : Option (Int) := if (decide (x0 < x1)) = true then ((at? a0 (IntKind.i64.wrap (Int.fdiv (IntKind.u64.wrap (IntKind.i64.wrap (x0 + x1))) 2))) >>= fun b2 => (at? a0 a1) >>= fun b3 => (cmp b2 b3) >>= fun t4 => ((if (decide (t4 < (0 : Int))) = true then (some (IntKind.i64.wrap ((IntKind.i64.wrap (Int.fdiv (IntKind.u64.wrap (IntKind.i64.wrap (x0 + x1))) 2)) + (1 : Int)), x1)) else (some (x0, IntKind.i64.wrap (Int.fdiv (IntKind.u64.wrap (IntKind.i64.wrap (x0 + x1))) 2)))) : Option (Int × Int)) >>= fun oo => match oo with | (x5, x6) => (symMerge.l0 a0 a1 x5 x6)) else (some x0)
partial_fixpoint
def symMerge.l1 (x0 : Int) (x1 : List α) (x2 : Int) : Option (List α) := if (decide (x2 < (IntKind.i64.wrap (x0 - (1 : Int))))) = true then ((at? x1 (IntKind.i64.wrap (x2 + (1 : Int)))) >>= fun b3 => (at? x1 x2) >>= fun b4 => (at? (x1.set (Int.toNat (x2)) b3) (IntKind.i64.wrap (x2 + (1 : Int)))) >>= fun b5 => symMerge.l1 x0 ((x1.set (Int.toNat (x2)) b3).set (Int.toNat (IntKind.i64.wrap (x2 + (1 : Int)))) b4) (IntKind.i64.wrap (x2 + (1 : Int)))) else (some x1)
partial_fixpoint
def symMerge.l2 (a0 : List α) (a2 : Int) (x0 : Int) (x1 : Int) : Option (Int) := if (decide (x0 < x1)) = true then ((at? a0 a2) >>= fun b2 => (at? a0 (IntKind.i64.wrap (Int.fdiv (IntKind.u64.wrap (IntKind.i64.wrap (x0 + x1))) 2))) >>= fun b3 => (cmp b2 b3) >>= fun t4 => ((if (!(decide (t4 < (0 : Int)))) = true then (some (IntKind.i64.wrap ((IntKind.i64.wrap (Int.fdiv (IntKind.u64.wrap (IntKind.i64.wrap (x0 + x1))) 2)) + (1 : Int)), x1)) else (some (x0, IntKind.i64.wrap (Int.fdiv (IntKind.u64.wrap (IntKind.i64.wrap (x0 + x1))) 2)))) : Option (Int × Int)) >>= fun oo => match oo with | (x5, x6) => (symMerge.l2 a0 a2 x5 x6)) else (some x0)
partial_fixpoint
def symMerge.l3 (x0 : Int) (x1 : List α) (x2 : Int) : Option (List α) := if (decide (x2 > x0)) = true then ((at? x1 (IntKind.i64.wrap (x2 - (1 : Int)))) >>= fun b3 => (at? x1 x2) >>= fun b4 => (at? (x1.set (Int.toNat (x2)) b3) (IntKind.i64.wrap (x2 - (1 : Int)))) >>= fun b5 => symMerge.l3 x0 ((x1.set (Int.toNat (x2)) b3).set (Int.toNat (IntKind.i64.wrap (x2 - (1 : Int)))) b4) (IntKind.i64.wrap (x2 - (1 : Int)))) else (some x1)
partial_fixpoint
def symMerge.l4 (a0 : List α) (a1 : Int) (a2 : Int) (a3 : Int) (x0 : Int) (x1 : Int) : Option (Int) := if (decide (x0 < x1)) = true then ((at? a0 (IntKind.i64.wrap ((IntKind.i64.wrap ((IntKind.i64.wrap ((IntKind.i64.wrap (Int.fdiv (IntKind.u64.wrap (IntKind.i64.wrap (a1 + a3))) 2)) + a2)) - (1 : Int))) - (IntKind.i64.wrap (Int.fdiv (IntKind.u64.wrap (IntKind.i64.wrap (x0 + x1))) 2))))) >>= fun b2 => (at? a0 (IntKind.i64.wrap (Int.fdiv (IntKind.u64.wrap (IntKind.i64.wrap (x0 + x1))) 2))) >>= fun b3 => (cmp b2 b3) >>= fun t4 => ((if (!(decide (t4 < (0 : Int)))) = true then (some (IntKind.i64.wrap ((IntKind.i64.wrap (Int.fdiv (IntKind.u64.wrap (IntKind.i64.wrap (x0 + x1))) 2)) + (1 : Int)), x1)) else (some (x0, IntKind.i64.wrap (Int.fdiv (IntKind.u64.wrap (IntKind.i64.wrap (x0 + x1))) 2)))) : Option (Int × Int)) >>= fun oo => match oo with | (x5, x6) => (symMerge.l4 a0 a1 a2 a3 x5 x6)) else (some x0)
partial_fixpoint
def symMerge.f (a0 : List α) (a1 : Int) (a2 : Int) (a3 : Int) : Option (List α) := if ((IntKind.i64.wrap (a2 - a1)) == (1 : Int)) = true then ((symMerge.l0 cmp a0 a1 a2 a3) >>= fun x0 => (symMerge.l1 x0 a0 a1) >>= fun x1 => some x1) else (if ((IntKind.i64.wrap (a3 - a2)) == (1 : Int)) = true then ((symMerge.l2 cmp a0 a2 a1 a2) >>= fun x2 => (symMerge.l3 x2 a0 a2) >>= fun x3 => some x3) else (((if (decide (a2 > (IntKind.i64.wrap (Int.fdiv (IntKind.u64.wrap (IntKind.i64.wrap (a1 + a3))) 2)))) = true then (some (IntKind.i64.wrap ((IntKind.i64.wrap ((IntKind.i64.wrap (Int.fdiv (IntKind.u64.wrap (IntKind.i64.wrap (a1 + a3))) 2)) + a2)) - a3), IntKind.i64.wrap (Int.fdiv (IntKind.u64.wrap (IntKind.i64.wrap (a1 + a3))) 2))) else (some (a1, a2))) : Option (Int × Int)) >>= fun oo => match oo with | (x4, x5) => ((symMerge.l4 cmp a0 a1 a2 a3 x4 x5) >>= fun x6 => ((if (decide (x6 < a2)) = true then (some (decide (a2 < (IntKind.i64.wrap ((IntKind.i64.wrap ((IntKind.i64.wrap (Int.fdiv (IntKind.u64.wrap (IntKind.i64.wrap (a1 + a3))) 2)) + a2)) - x6))))) else (some false)) : Option (Bool)) >>= fun x7 => ((if x7 = true then ((rotate.f a0 x6 a2 (IntKind.i64.wrap ((IntKind.i64.wrap ((IntKind.i64.wrap (Int.fdiv (IntKind.u64.wrap (IntKind.i64.wrap (a1 + a3))) 2)) + a2)) - x6))) >>= fun t8 => some t8) else (some a0)) : Option (List α)) >>= fun x9 => ((if (decide (a1 < x6)) = true then (some (decide (x6 < (IntKind.i64.wrap (Int.fdiv (IntKind.u64.wrap (IntKind.i64.wrap (a1 + a3))) 2))))) else (some false)) : Option (Bool)) >>= fun x10 => ((if x10 = true then ((symMerge.f x9 a1 x6 (IntKind.i64.wrap (Int.fdiv (IntKind.u64.wrap (IntKind.i64.wrap (a1 + a3))) 2))) >>= fun t11 => some t11) else (some x9)) : Option (List α)) >>= fun x12 => ((if (decide ((IntKind.i64.wrap (Int.fdiv (IntKind.u64.wrap (IntKind.i64.wrap (a1 + a3))) 2)) < (IntKind.i64.wrap ((IntKind.i64.wrap ((IntKind.i64.wrap (Int.fdiv (IntKind.u64.wrap (IntKind.i64.wrap (a1 + a3))) 2)) + a2)) - x6)))) = true then (some (decide ((IntKind.i64.wrap ((IntKind.i64.wrap ((IntKind.i64.wrap (Int.fdiv (IntKind.u64.wrap (IntKind.i64.wrap (a1 + a3))) 2)) + a2)) - x6)) < a3))) else (some false)) : Option (Bool)) >>= fun x13 => ((if x13 = true then ((symMerge.f x12 (IntKind.i64.wrap (Int.fdiv (IntKind.u64.wrap (IntKind.i64.wrap (a1 + a3))) 2)) (IntKind.i64.wrap ((IntKind.i64.wrap ((IntKind.i64.wrap (Int.fdiv (IntKind.u64.wrap (IntKind.i64.wrap (a1 + a3))) 2)) + a2)) - x6)) a3) >>= fun t14 => some t14) else (some x12)) : Option (List α)) >>= fun x15 => some x15)))
partial_fixpoint
def stable.l0 (a1 : Int) (x0 : List α) (x1 : Int) (x2 : Int) : Option ((List α) × Int) := if (decide (x2 ≤ a1)) = true then ((insertionSort.f cmp x0 x1 x2) >>= fun t3 => stable.l0 a1 t3 x2 (IntKind.i64.wrap (x2 + (20 : Int)))) else (some (x0, x1))
partial_fixpoint
def stable.l2 (a1 : Int) (x0 : Int) (x1 : List α) (x2 : Int) (x3 : Int) : Option ((List α) × Int) := if (decide (x3 ≤ a1)) = true then ((symMerge.f cmp x1 x2 (IntKind.i64.wrap (x2 + x0)) x3) >>= fun t4 => stable.l2 a1 x0 t4 x3 (IntKind.i64.wrap (x3 + (IntKind.i64.wrap ((2 : Int) * x0))))) else (some (x1, x2))
partial_fixpoint
def stable.l1 (a1 : Int) (x0 : List α) (x1 : Int) : Option (List α) := if (decide (x1 < a1)) = true then ((stable.l2 cmp a1 x1 x0 0 (IntKind.i64.wrap ((2 : Int) * x1))) >>= fun oo => match oo with | (x2, x3) => (((if (decide ((IntKind.i64.wrap (x3 + x1)) < a1)) = true then ((symMerge.f cmp x2 x3 (IntKind.i64.wrap (x3 + x1)) a1) >>= fun t4 => some t4) else (some x2)) : Option (List α)) >>= fun x5 => stable.l1 a1 x5 (IntKind.i64.wrap (x1 * (2 : Int))))) else (some x0)
partial_fixpoint
def stable.f (a0 : List α) (a1 : Int) : Option (List α) := (stable.l0 cmp a1 a0 0 20) >>= fun oo => match oo with | (x0, x1) => ((insertionSort.f cmp x0 x1 a1) >>= fun t2 => (stable.l1 cmp a1 t2 20) >>= fun x3 => some x3)
def SortStable.f (a0 : List α) : Option (List α) := (stable.f cmp a0 (a0.length : Int)) >>= fun t0 => some t0
end Defs
/-- Lists, from the right. -/
theorem snocRec {α : Type} {motive : List α → Prop} (nil : motive []) (snoc : ∀ (l : List α) (x : α), motive l → motive (l ++ [x])) (l : List α) : motive l := by
  have : ∀ n (l : List α), l.length = n → motive l := by
    intro n
    induction n with
    | zero => intro l h; rw [List.length_eq_zero_iff.1 h]; exact nil
    | succ n ih =>
      intro l h
      rcases List.eq_nil_or_concat l with rfl | ⟨P, p, rfl⟩
      · exact nil
      · rw [List.concat_eq_append]; exact snoc P p (ih P (by simp at h; omega))
  exact this _ l rfl

section Merge
variable {α : Type} (lt : α → α → Bool)

def mrg : List α → List α → List α
  | [], ys => ys
  | x :: xs, [] => x :: xs
  | x :: xs, y :: ys => if lt y x = true then y :: mrg (x :: xs) ys else x :: mrg xs (y :: ys)
termination_by xs ys => xs.length + ys.length

theorem mrg_nl (ys : List α) : mrg lt [] ys = ys := by rw [mrg]
theorem mrg_nr (xs : List α) : mrg lt xs [] = xs := by cases xs <;> rw [mrg]
theorem mrg_cc (x : α) (xs : List α) (y : α) (ys : List α) : mrg lt (x :: xs) (y :: ys) = if lt y x = true then y :: mrg lt (x :: xs) ys else x :: mrg lt xs (y :: ys) := by rw [mrg]
theorem mrg_T {x y : α} (h : lt y x = true) (xs ys : List α) : mrg lt (x :: xs) (y :: ys) = y :: mrg lt (x :: xs) ys := by rw [mrg_cc, if_pos h]
theorem mrg_F {x y : α} (h : lt y x = false) (xs ys : List α) : mrg lt (x :: xs) (y :: ys) = x :: mrg lt xs (y :: ys) := by rw [mrg_cc, if_neg (by simp [h])]

structure SWO (lt : α → α → Bool) : Prop where
  asymm : ∀ a b, lt a b = true → lt b a = false
  trans : ∀ a b c, lt b a = false → lt c b = false → lt c a = false

variable {lt}
theorem SWO.strict (h : SWO lt) {a b c : α} (h1 : lt b a = true) (h2 : lt c b = true) : lt c a = true := by
  cases e : lt c a with
  | true => rfl
  | false => rw [h.trans a c b e (h.asymm _ _ h2)] at h1; exact h1

abbrev Srt (lt : α → α → Bool) (l : List α) : Prop := l.Pairwise (fun a b => lt b a = false)

theorem mrg_split : ∀ (n : Nat) (X1 X2 Y1 Y2 : List α), X1.length + Y1.length ≤ n → (∀ x ∈ X1, ∀ y ∈ Y2, lt y x = false) → (∀ y ∈ Y1, ∀ x ∈ X2, lt y x = true) →
    mrg lt (X1 ++ X2) (Y1 ++ Y2) = mrg lt X1 Y1 ++ mrg lt X2 Y2 := by
  intro n
  induction n with
  | zero =>
    intro X1 X2 Y1 Y2 hn _ _
    obtain rfl : X1 = [] := List.length_eq_zero_iff.1 (by omega)
    obtain rfl : Y1 = [] := List.length_eq_zero_iff.1 (by omega)
    simp [mrg_nl]
  | succ n ih =>
    intro X1 X2 Y1 Y2 hn h1 h2
    cases X1 with
    | nil =>
      cases Y1 with
      | nil => simp [mrg_nl]
      | cons y Y1 =>
        cases X2 with
        | nil => simp [mrg_nl]
        | cons x X2 =>
          have hyx := h2 y (by simp) x (by simp)
          have := ih [] (x :: X2) Y1 Y2 (by simp at hn ⊢; omega) (by simp) (fun y hy => h2 y (by simp [hy]))
          simp only [List.nil_append, List.cons_append, mrg_nl] at this ⊢
          rw [mrg_T _ hyx, this]
    | cons x X1 =>
      cases Y1 with
      | nil =>
        cases Y2 with
        | nil => simp [mrg_nr]
        | cons y Y2 =>
          have hyx := h1 x (by simp) y (by simp)
          have := ih X1 X2 [] (y :: Y2) (by simp at hn ⊢; omega) (fun x hx => h1 x (by simp [hx])) (by simp)
          simp only [List.nil_append, List.cons_append, mrg_nr] at this ⊢
          rw [mrg_F _ hyx, this]
      | cons y Y1 =>
        simp only [List.length_cons] at hn
        simp only [List.cons_append]
        cases e : lt y x with
        | true =>
          have := ih (x :: X1) X2 Y1 Y2 (by simp; omega) h1 (fun y hy => h2 y (by simp [hy]))
          simp only [List.cons_append] at this
          rw [mrg_T _ e, mrg_T _ e, this, List.cons_append]
        | false =>
          have := ih X1 X2 (y :: Y1) Y2 (by simp; omega) (fun x hx => h1 x (by simp [hx])) h2
          simp only [List.cons_append] at this
          rw [mrg_F _ e, mrg_F _ e, this, List.cons_append]

theorem mrg_assoc (h : SWO lt) : ∀ (n : Nat) (A B C : List α), A.length + B.length + C.length ≤ n → mrg lt A (mrg lt B C) = mrg lt (mrg lt A B) C := by
  intro n
  induction n with
  | zero =>
    intro A B C hn
    obtain rfl : A = [] := List.length_eq_zero_iff.1 (by omega)
    simp [mrg_nl]
  | succ n ih =>
    intro A B C hn
    cases A with
    | nil => simp [mrg_nl]
    | cons a A =>
    cases B with
    | nil => simp [mrg_nl, mrg_nr]
    | cons b B =>
    cases C with
    | nil => simp [mrg_nr]
    | cons c C =>
    simp only [List.length_cons] at hn
    cases e1 : lt b a with
    | true =>
      rw [mrg_T (xs := A) _ e1]
      cases e2 : lt c b with
      | true =>
        have e3 := h.strict e1 e2
        rw [mrg_T (xs := B) _ e2, mrg_T _ e3, ih (a :: A) (b :: B) C (by simp; omega), mrg_T _ e1, mrg_T _ e2]
      | false =>
        rw [mrg_F (xs := B) _ e2, mrg_T _ e1, ih (a :: A) B (c :: C) (by simp; omega), mrg_F _ e2]
    | false =>
      rw [mrg_F (ys := B) _ e1]
      cases e2 : lt c b with
      | true =>
        rw [mrg_T (xs := B) _ e2]
        cases e3 : lt c a with
        | true =>
          rw [mrg_T _ e3, mrg_T _ e3, ih (a :: A) (b :: B) C (by simp; omega), mrg_F _ e1]
        | false =>
          rw [mrg_F _ e3, mrg_F _ e3, ← ih A (b :: B) (c :: C) (by simp; omega), mrg_T _ e2]
      | false =>
        have e3 := h.trans _ _ _ e1 e2
        rw [mrg_F (xs := B) _ e2, mrg_F _ e1, mrg_F _ e3, ← ih A (b :: B) (c :: C) (by simp; omega), mrg_F _ e2]

theorem mrg_perm : ∀ (n : Nat) (X Y : List α), X.length + Y.length ≤ n → (mrg lt X Y).Perm (X ++ Y) := by
  intro n
  induction n with
  | zero =>
    intro X Y hn
    obtain rfl : X = [] := List.length_eq_zero_iff.1 (by omega)
    simp [mrg_nl]
  | succ n ih =>
    intro X Y hn
    cases X with
    | nil => simp [mrg_nl]
    | cons x X =>
    cases Y with
    | nil => simp [mrg_nr]
    | cons y Y =>
    simp only [List.length_cons] at hn
    cases e : lt y x with
    | true =>
      rw [mrg_T _ e]
      have := ih (x :: X) Y (by simp; omega)
      exact ((List.Perm.cons y this).trans (List.perm_middle (l₁ := x :: X) (l₂ := Y)).symm)
    | false =>
      rw [mrg_F _ e]
      have := ih X (y :: Y) (by simp; omega)
      exact List.Perm.cons x this

theorem mrg_len (X Y : List α) : (mrg lt X Y).length = X.length + Y.length := by
  rw [(mrg_perm _ X Y (Nat.le_refl _)).length_eq, List.length_append]
theorem mem_mrg {X Y : List α} {z : α} : z ∈ mrg lt X Y ↔ z ∈ X ∨ z ∈ Y := by
  rw [(mrg_perm _ X Y (Nat.le_refl _)).mem_iff, List.mem_append]

theorem mrg_sorted (h : SWO lt) : ∀ (n : Nat) (X Y : List α), X.length + Y.length ≤ n → Srt lt X → Srt lt Y → Srt lt (mrg lt X Y) := by
  intro n
  induction n with
  | zero =>
    intro X Y hn _ hy
    obtain rfl : X = [] := List.length_eq_zero_iff.1 (by omega)
    rw [mrg_nl]; exact hy
  | succ n ih =>
    intro X Y hn hx hy
    cases X with
    | nil => rw [mrg_nl]; exact hy
    | cons x X =>
    cases Y with
    | nil => rw [mrg_nr]; exact hx
    | cons y Y =>
    simp only [List.length_cons] at hn
    have hx' := List.pairwise_cons.1 hx
    have hy' := List.pairwise_cons.1 hy
    cases e : lt y x with
    | true =>
      rw [mrg_T _ e]
      refine List.pairwise_cons.2 ⟨fun z hz => ?_, ih (x :: X) Y (by simp; omega) hx hy'.2⟩
      rcases mem_mrg.1 hz with hz | hz
      · rcases List.mem_cons.1 hz with rfl | hz
        · exact h.asymm _ _ e
        · exact h.trans _ _ _ (h.asymm _ _ e) (hx'.1 z hz)
      · exact hy'.1 z hz
    | false =>
      rw [mrg_F _ e]
      refine List.pairwise_cons.2 ⟨fun z hz => ?_, ih X (y :: Y) (by simp; omega) hx'.2 hy⟩
      rcases mem_mrg.1 hz with hz | hz
      · exact hx'.1 z hz
      · rcases List.mem_cons.1 hz with rfl | hz
        · exact e
        · exact h.trans _ _ _ e (hy'.1 z hz)

/-- What a stable sort makes. -/
def S (lt : α → α → Bool) (l : List α) : List α := l.foldl (fun acc x => mrg lt acc [x]) []

theorem S_nil : S lt ([] : List α) = [] := rfl
theorem S_snoc (l : List α) (x : α) : S lt (l ++ [x]) = mrg lt (S lt l) [x] := by simp [S]
theorem S_append (h : SWO lt) (l1 : List α) : ∀ l2 : List α, S lt (l1 ++ l2) = mrg lt (S lt l1) (S lt l2) := by
  intro l2
  induction l2 using snocRec with
  | nil => simp [S_nil, mrg_nr]
  | snoc l2 x ih => rw [← List.append_assoc, S_snoc, ih, S_snoc, mrg_assoc h _ _ _ _ (Nat.le_refl _)]
theorem S_perm (l : List α) : (S lt l).Perm l := by
  induction l using snocRec with
  | nil => exact List.Perm.refl _
  | snoc l x ih => rw [S_snoc]; exact (mrg_perm _ _ _ (Nat.le_refl _)).trans (List.Perm.append ih (List.Perm.refl _))
theorem S_len (l : List α) : (S lt l).length = l.length := (S_perm l).length_eq
theorem S_sorted (h : SWO lt) (l : List α) : Srt lt (S lt l) := by
  induction l using snocRec with
  | nil => exact List.Pairwise.nil
  | snoc l x ih => rw [S_snoc]; exact mrg_sorted h _ _ _ (Nat.le_refl _) ih (List.pairwise_singleton _ _)
theorem mrg_snoc_T {P : List α} {p x : α} (e : lt x p = true) : mrg lt (P ++ [p]) [x] = mrg lt P [x] ++ [p] := by
  have := mrg_split (lt := lt) _ P [p] [x] [] (Nat.le_refl _) (by simp) (by simp [e])
  simpa [mrg_nr] using this
theorem mrg_snoc_F (h : SWO lt) {P : List α} {p x : α} (e : lt x p = false) (hs : Srt lt (P ++ [p])) : mrg lt (P ++ [p]) [x] = P ++ [p] ++ [x] := by
  have := mrg_split (lt := lt) _ (P ++ [p]) [] [] [x] (Nat.le_refl _) (by
    intro q hq y hy
    simp only [List.mem_singleton] at hy
    subst hy
    rcases List.mem_append.1 hq with hq | hq
    · exact h.trans _ _ _ ((List.pairwise_append.1 hs).2.2 q hq p (by simp)) e
    · simp only [List.mem_singleton] at hq; subst hq; exact e) (by simp)
  simpa [mrg_nl, mrg_nr] using this
theorem S_of_sorted (h : SWO lt) (l : List α) (hs : Srt lt l) : S lt l = l := by
  induction l using snocRec with
  | nil => rfl
  | snoc l x ih =>
    rw [S_snoc, ih (List.pairwise_append.1 hs).1]
    rcases List.eq_nil_or_concat l with rfl | ⟨P, p, rfl⟩
    · simp [mrg_nl]
    · simp only [List.concat_eq_append] at hs ⊢
      exact mrg_snoc_F h ((List.pairwise_append.1 hs).2.2 p (by simp) x (by simp)) (List.pairwise_append.1 hs).1
end Merge

/-! ### Places in rows -/
theorem at_app {α β : Type} (A : List α) (x : α) (B : List α) {i : Int} (h : i = (A.length : Int)) (f : α → Option β) : (at? (A ++ x :: B) i >>= f) = f x := by
  subst h
  have : at? (A ++ x :: B) (A.length : Int) = some x := by unfold at?; rw [if_pos (by omega)]; simp
  rw [this]; rfl
theorem set_app {α : Type} (A : List α) (x y : α) (B : List α) {n : Nat} (h : n = A.length) : (A ++ x :: B).set n y = A ++ y :: B := by
  subst h; simp
theorem mid64 {a b : Int} (h0 : 0 ≤ a) (h1 : 0 ≤ b) (h2 : a + b < 4611686018427387904) : IntKind.i64.wrap (Int.fdiv (IntKind.u64.wrap (IntKind.i64.wrap (a + b))) 2) = (a + b) / 2 := by
  rw [wrap64 (n := a + b) (by omega) (by omega)]
  have : IntKind.u64.wrap (a + b) = a + b := by
    simp only [IntKind.wrap, IntKind.signed, IntKind.bits]; simp; omega
  rw [this, Int.fdiv_eq_ediv_of_nonneg _ (by omega), wrap64 (by omega) (by omega)]

/-! ### What the functions make -/
section Run
variable {α : Type} {cmp : α → α → Option Int} {lt : α → α → Bool}

abbrev Cmp (cmp : α → α → Option Int) (lt : α → α → Bool) : Prop := ∀ a b, ∃ c, cmp a b = some c ∧ decide (c < 0) = lt a b

theorem ins_l1 (hc : Cmp cmp lt) (h : SWO lt) (A : List α) (x : α) (a1 a2 x0 : Int) (ha : a1 = (A.length : Int)) : ∀ (n : Nat) (P Q : List α) (j : Int), P.length = n → Srt lt P → j = ((A.length + P.length : Nat) : Int) → (A.length + P.length : Nat) < 1000000000000 →
    insertionSort.l1 cmp a1 a2 x0 (A ++ P ++ x :: Q) j = some (A ++ mrg lt P [x] ++ Q) := by
  intro n
  induction n with
  | zero =>
    intro P Q j hn hs hj hb
    obtain rfl : P = [] := List.length_eq_zero_iff.1 hn
    rw [insertionSort.l1, if_neg (by simp at hj ⊢; omega)]
    simp [mrg_nl]
  | succ n ih =>
    intro P Q j hn hs hj hb
    rcases List.eq_nil_or_concat P with rfl | ⟨P, p, rfl⟩
    · simp at hn
    simp only [List.concat_eq_append] at *
    simp only [List.length_append, List.length_singleton] at hn hj hb
    have hw : IntKind.i64.wrap (j - 1) = ((A.length + P.length : Nat) : Int) := by rw [wrap64 (by omega) (by omega)]; omega
    have e1 : A ++ (P ++ [p]) ++ x :: Q = (A ++ P ++ [p]) ++ x :: Q := by simp
    have e2 : A ++ (P ++ [p]) ++ x :: Q = (A ++ P) ++ p :: (x :: Q) := by simp
    obtain ⟨c, hcc, hcl⟩ := hc x p
    have hj1 : j = ((A ++ P ++ [p]).length : Int) := by simp; omega
    rw [insertionSort.l1, hw, if_pos (by simp; omega)]
    rw [e1, at_app _ _ _ hj1]
    rw [← e1, e2, at_app _ _ _ (by simp), hcc, sb, hcl, sb]
    cases e : lt x p with
    | true =>
      rw [if_pos rfl, at_app _ _ _ (by simp), ← e2, e1, at_app _ _ _ hj1, set_app _ _ _ _ (by rw [hj1]; simp; omega)]
      rw [show (A ++ P ++ [p] ++ p :: Q) = (A ++ P) ++ p :: (p :: Q) by simp, at_app _ _ _ (by simp), set_app _ _ _ _ (by simp; omega)]
      rw [ih P (p :: Q) _ (by omega) (List.pairwise_append.1 hs).1 rfl (by omega), mrg_snoc_T e]
      simp
    | false =>
      rw [if_neg (by simp), mrg_snoc_F h e hs]
      simp

theorem ins_l0 (hc : Cmp cmp lt) (h : SWO lt) (A : List α) (a1 : Int) (ha : a1 = (A.length : Int)) : ∀ (T D B : List α) (a2 i : Int), i = ((A.length + D.length : Nat) : Int) → a2 = ((A.length + D.length + T.length : Nat) : Int) →
    (A.length + D.length + T.length : Nat) < 1000000000000 → insertionSort.l0 cmp a1 a2 (A ++ S lt D ++ T ++ B) i = some (A ++ S lt (D ++ T) ++ B) := by
  intro T
  induction T with
  | nil =>
    intro D B a2 i hi h2 hb
    rw [insertionSort.l0, if_neg (by simp at h2 ⊢; omega)]
    simp
  | cons x T ih =>
    intro D B a2 i hi h2 hb
    simp only [List.length_cons] at h2 hb
    rw [insertionSort.l0, if_pos (by simp; omega)]
    have e1 : A ++ S lt D ++ x :: T ++ B = A ++ S lt D ++ x :: (T ++ B) := by simp
    rw [e1, ins_l1 hc h A x a1 a2 i ha _ (S lt D) (T ++ B) i rfl (S_sorted h D) (by rw [S_len]; exact hi) (by rw [S_len]; omega), sb, wrap64 (by omega) (by omega)]
    rw [← S_snoc]
    have := ih (D ++ [x]) B a2 (i + 1) (by simp; omega) (by simp; omega) (by simp; omega)
    simp only [List.append_assoc, List.singleton_append] at this ⊢
    exact this

theorem ins_f (hc : Cmp cmp lt) (h : SWO lt) (A T B : List α) (a1 a2 : Int) (ha : a1 = (A.length : Int)) (h2 : a2 = ((A.length + T.length : Nat) : Int)) (hb : A.length + T.length < 1000000000000) :
    insertionSort.f cmp (A ++ T ++ B) a1 a2 = some (A ++ S lt T ++ B) := by
  unfold insertionSort.f
  rw [wrap64 (by omega) (by omega)]
  cases T with
  | nil =>
    rw [insertionSort.l0, if_neg (by simp at h2 ⊢; omega), sb]; simp [S_nil]
  | cons x T =>
    simp only [List.length_cons] at h2 hb
    have := ins_l0 hc h A a1 ha T [x] B a2 (a1 + 1) (by simp; omega) (by simp; omega) (by simp; omega)
    have e : S lt [x] = [x] := by simp [S, mrg_nl]
    rw [e] at this
    simp only [List.append_assoc, List.singleton_append, List.cons_append, List.nil_append] at this ⊢
    rw [this]; rfl

theorem swp_l0 (A M C : List α) (a1 a2 a3 : Int) (ha : a1 = (A.length : Int)) : ∀ (U V W X : List α) (i : Int), V.length = X.length → W.length = U.length → i = (U.length : Int) →
    a2 = ((A.length + U.length + V.length + M.length : Nat) : Int) → a3 = ((U.length + V.length : Nat) : Int) → A.length + U.length + V.length + M.length + U.length + V.length < 1000000000000 →
    swapRange.l0 a1 a2 a3 (A ++ U ++ V ++ M ++ W ++ X ++ C) i = some (A ++ U ++ X ++ M ++ W ++ V ++ C) := by
  intro U V
  induction V generalizing U with
  | nil =>
    intro W X i h1 h2 hi _ h3 _
    obtain rfl : X = [] := List.length_eq_zero_iff.1 (by simpa using h1.symm)
    rw [swapRange.l0, if_neg (by simp at h3 ⊢; omega)]
  | cons v V ih =>
    intro W X i h1 h2 hi h3 h4 hb
    cases X with
    | nil => simp at h1
    | cons x X =>
    simp only [List.length_cons] at h1 h3 h4 hb
    have e1 : A ++ U ++ v :: V ++ M ++ W ++ x :: X ++ C = (A ++ U ++ v :: V ++ M ++ W) ++ x :: (X ++ C) := by simp
    have e2 : A ++ U ++ v :: V ++ M ++ W ++ x :: X ++ C = (A ++ U) ++ v :: (V ++ M ++ W ++ x :: X ++ C) := by simp
    have w1 : IntKind.i64.wrap (a1 + i) = ((A.length + U.length : Nat) : Int) := by rw [wrap64 (by omega) (by omega)]; omega
    have w2 : IntKind.i64.wrap (a2 + i) = ((A.length + U.length + (V.length + 1) + M.length + U.length : Nat) : Int) := by rw [wrap64 (by omega) (by omega)]; omega
    have w3 : IntKind.i64.wrap (i + 1) = ((U.length + 1 : Nat) : Int) := by rw [wrap64 (by omega) (by omega)]; omega
    rw [swapRange.l0, if_pos (by simp; omega), w1, w2, w3, e1, at_app _ _ _ (by simp; omega), ← e1, e2, at_app _ _ _ (by simp), set_app _ _ _ _ (by simp; omega)]
    rw [show (A ++ U ++ x :: (V ++ M ++ W ++ x :: X ++ C)) = (A ++ U ++ x :: V ++ M ++ W) ++ x :: (X ++ C) by simp, at_app _ _ _ (by simp; omega), set_app _ _ _ _ (by simp; omega)]
    have := ih (U ++ [x]) (W ++ [v]) X ((U.length + 1 : Nat) : Int) (by omega) (by simp; omega) (by simp) (by simp; omega) (by simp; omega) (by simp; omega)
    simp only [List.append_assoc, List.singleton_append, List.cons_append, List.nil_append] at this ⊢
    rw [this]

theorem swp_f (A U M W C : List α) (a1 a2 a3 : Int) (ha : a1 = (A.length : Int)) (h2 : a2 = ((A.length + U.length + M.length : Nat) : Int)) (h3 : a3 = (U.length : Int)) (hw : W.length = U.length) (hb : A.length + U.length + M.length + U.length < 1000000000000) :
    swapRange.f (A ++ U ++ M ++ W ++ C) a1 a2 a3 = some (A ++ W ++ M ++ U ++ C) := by
  unfold swapRange.f
  have := swp_l0 A M C a1 a2 a3 ha [] U [] W 0 hw.symm rfl rfl (by simp; omega) (by simp; omega) (by simp; omega)
  simp only [List.append_nil, List.nil_append, List.append_assoc] at this ⊢
  rw [this]; rfl

theorem rot_l0 (m : Int) : ∀ (n : Nat) (A P Q C : List α) (i j : Int), P.length + Q.length ≤ n → 0 < P.length → 0 < Q.length → i = (P.length : Int) → j = (Q.length : Int) → m = ((A.length + P.length : Nat) : Int) → A.length + P.length + Q.length < 1000000000000 →
    ∃ (A' P' Q' C' : List α), rotate.l0 m (A ++ P ++ Q ++ C) i j = some (A' ++ P' ++ Q' ++ C', (P'.length : Int)) ∧ P'.length = Q'.length ∧ 0 < P'.length ∧ m = ((A'.length + P'.length : Nat) : Int) ∧
      A'.length + P'.length + Q'.length < 1000000000000 ∧ A' ++ Q' ++ P' ++ C' = A ++ Q ++ P ++ C := by
  intro n
  induction n with
  | zero => intro A P Q C i j hn h1 h2; omega
  | succ n ih =>
    intro A P Q C i j hn h1 h2 hi hj hm hb
    rw [rotate.l0]
    by_cases hij : i = j
    · subst hij
      rw [if_neg (by simp)]
      exact ⟨A, P, Q, C, by rw [hi], by omega, h1, hm, hb, rfl⟩
    rw [if_pos (by simpa using hij)]
    by_cases hgt : i > j
    · rw [if_pos (by simpa using hgt)]
      obtain ⟨P1, P2, rfl, hl⟩ : ∃ P1 P2, P = P1 ++ P2 ∧ P1.length = Q.length := ⟨P.take Q.length, P.drop Q.length, by simp, by simp; omega⟩
      simp only [List.length_append] at hn h1 hi hm hb
      have w1 : IntKind.i64.wrap (m - i) = (A.length : Int) := by rw [wrap64 (by omega) (by omega)]; omega
      have w2 : IntKind.i64.wrap (i - j) = (P2.length : Int) := by rw [wrap64 (by omega) (by omega)]; omega
      have hs := swp_f A P1 P2 Q C (A.length : Int) m j rfl (by omega) (by omega) (by omega) (by omega)
      rw [w1, w2, show A ++ (P1 ++ P2) ++ Q ++ C = A ++ P1 ++ P2 ++ Q ++ C by simp, hs, sb, sb]
      simp only []
      obtain ⟨A', P', Q', C', g1, g2, g3, g4, g5, g6⟩ := ih (A ++ Q) P2 P1 C (P2.length : Int) j (by omega) (by omega) (by omega) rfl (by omega) (by simp; omega) (by simp; omega)
      exact ⟨A', P', Q', C', g1, g2, g3, g4, g5, by rw [g6]; simp⟩
    · rw [if_neg (by simpa using hgt)]
      obtain ⟨Q1, Q2, rfl, hl⟩ : ∃ Q1 Q2, Q = Q1 ++ Q2 ∧ Q2.length = P.length := ⟨Q.take (Q.length - P.length), Q.drop (Q.length - P.length), by simp, by simp; omega⟩
      simp only [List.length_append] at hn h2 hj hb
      have w1 : IntKind.i64.wrap (m - i) = (A.length : Int) := by rw [wrap64 (by omega) (by omega)]; omega
      have w2 : IntKind.i64.wrap (j - i) = (Q1.length : Int) := by rw [wrap64 (by omega) (by omega)]; omega
      have w3 : IntKind.i64.wrap (IntKind.i64.wrap (m + j) - i) = ((A.length + P.length + Q1.length : Nat) : Int) := by rw [wrap64 (n := m + j) (by omega) (by omega), wrap64 (by omega) (by omega)]; omega
      have hs := swp_f A P Q1 Q2 C (A.length : Int) ((A.length + P.length + Q1.length : Nat) : Int) i rfl rfl hi (by omega) (by omega)
      rw [w1, w2, w3, show A ++ P ++ (Q1 ++ Q2) ++ C = A ++ P ++ Q1 ++ Q2 ++ C by simp, hs, sb, sb]
      simp only []
      obtain ⟨A', P', Q', C', g1, g2, g3, g4, g5, g6⟩ := ih A Q2 Q1 (P ++ C) i (Q1.length : Int) (by omega) (by omega) (by omega) (by omega) rfl (by omega) (by omega)
      refine ⟨A', P', Q', C', ?_, g2, g3, g4, g5, by rw [g6]; simp⟩
      rw [show A ++ Q2 ++ Q1 ++ P ++ C = A ++ Q2 ++ Q1 ++ (P ++ C) by simp]
      exact g1

theorem rot_f (A P Q C : List α) (a m b : Int) (ha : a = (A.length : Int)) (hm : m = ((A.length + P.length : Nat) : Int)) (hb : b = ((A.length + P.length + Q.length : Nat) : Int)) (h1 : 0 < P.length) (h2 : 0 < Q.length) (hB : A.length + P.length + Q.length < 1000000000000) :
    rotate.f (A ++ P ++ Q ++ C) a m b = some (A ++ Q ++ P ++ C) := by
  unfold rotate.f
  rw [wrap64 (n := m - a) (by omega) (by omega), wrap64 (n := b - m) (by omega) (by omega)]
  obtain ⟨A', P', Q', C', g1, g2, g3, g4, g5, g6⟩ := rot_l0 m _ A P Q C (m - a) (b - m) (Nat.le_refl _) h1 h2 (by omega) (by omega) hm hB
  rw [g1, sb]
  simp only []
  have w1 : IntKind.i64.wrap (m - (P'.length : Int)) = (A'.length : Int) := by rw [wrap64 (by omega) (by omega)]; omega
  have hs := swp_f A' P' [] Q' C' (A'.length : Int) m (P'.length : Int) rfl (by simp; omega) rfl g2.symm (by simp; omega)
  simp only [List.append_nil] at hs
  rw [w1, hs, sb, g6]
end Run
end Go.Pv.GS
