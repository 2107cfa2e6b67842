import Derived.Test.YticdbkmekkbiiaaPvSort2
set_option linter.unusedVariables false
set_option linter.unusedSimpArgs false
/-! More plain laws on what the written texts use. -/
namespace Go.Pv
open Go.Pv.GS


theorem isum_nonneg : ∀ {l : List Int}, (∀ x ∈ l, 0 ≤ x) → 0 ≤ l.sum
  | [], _ => by simp
  | x :: l, h => by
    have h1 := h x (by simp)
    have h2 := isum_nonneg (l := l) (fun y hy => h y (by simp [hy]))
    rw [List.sum_cons]; omega
theorem isum_perm {l l' : List Int} (h : l.Perm l') : l.sum = l'.sum := by
  induction h with
  | nil => rfl
  | cons x _ ih => simp [ih]
  | swap x y l => simp; omega
  | trans _ _ h1 h2 => exact h1.trans h2
theorem le_isum {l : List Int} (h : ∀ x ∈ l, 0 ≤ x) {x : Int} (hx : x ∈ l) : x ≤ l.sum := by
  induction l with
  | nil => simp at hx
  | cons y l ih =>
    have hn := isum_nonneg (l := l) (fun y hy => h y (by simp [hy]))
    rcases List.mem_cons.1 hx with rfl | hx
    · rw [List.sum_cons]; omega
    · have := ih (fun y hy => h y (by simp [hy])) hx
      have := h y (by simp)
      rw [List.sum_cons]; omega

theorem wrapU {n : Int} (h0 : 0 ≤ n) (h1 : n < 18446744073709551616) : IntKind.u64.wrap n = n := by
  simp only [IntKind.wrap, IntKind.signed, IntKind.bits]; simp; omega
theorem wrapU_eq (n : Int) : IntKind.u64.wrap n = n % 18446744073709551616 := by
  simp only [IntKind.wrap, IntKind.signed, IntKind.bits]; simp
theorem u64_wrap (n : Int) : U64 (IntKind.u64.wrap n) := by
  rw [wrapU_eq]; constructor <;> omega
theorem i64_wrap (n : Int) : I64 (IntKind.i64.wrap n) := by
  simp only [IntKind.wrap, IntKind.signed, IntKind.bits]; simp; constructor <;> omega
theorem wrap64_eq (n : Int) : IntKind.i64.wrap n = (n + 9223372036854775808) % 18446744073709551616 - 9223372036854775808 := by
  simp only [IntKind.wrap, IntKind.signed, IntKind.bits]; simp; omega

/-- An element, where a list is parted. -/
theorem at_mid {α : Type} {l pre suf : List α} {x : α} {i : Int} (h : l = pre ++ x :: suf) (hi : i = (pre.length : Int)) : at? l i = some x := by
  subst h; subst hi
  unfold at?; rw [if_pos (by omega)]; simp
theorem at_nat {α : Type} {l : List α} {x : α} {i : Int} {k : Nat} (hi : i = (k : Int)) (h : l[k]? = some x) : at? l i = some x := by
  subst hi
  unfold at?; rw [if_pos (by omega)]; simpa using h
theorem at_lt {α : Type} {l : List α} {i : Int} (h0 : 0 ≤ i) (h : i < (l.length : Int)) : at? l i = some (l[i.toNat]'(by omega)) := by
  unfold at?; rw [if_pos h0]; simp

theorem bind_iteB {α β : Type} {c : Prop} [Decidable c] (x y : Option α) (f : α → Option β) : ((if c then x else y) >>= f) = if c then x >>= f else y >>= f := by split <;> rfl

end Go.Pv
