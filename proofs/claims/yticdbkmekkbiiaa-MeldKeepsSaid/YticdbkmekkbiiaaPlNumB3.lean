import Derived.Test.YticdbkmekkbiiaaPvGB3
import Derived.Test.YticdbkmekkbiiaaPvPlain2
set_option linter.unusedVariables false
set_option linter.unusedSimpArgs false
/-! Numbers: what the program's sums come to. -/
namespace Go.Proofs.Yticdbkmekkbiiaa.PvGB3
open Go Go.Pv Go.Pv.GS

theorem compare_int (a b : Int) : f_cmp_Compare_int.f a b = some (if a < b then -1 else if a > b then 1 else 0) := by
  unfold f_cmp_Compare_int.f f_cmp_isNaN_int.f
  by_cases h1 : a < b
  · simp [h1]
  · by_cases h2 : b < a
    · simp [h1, h2]
    · simp [h1, h2]

theorem num_add_l0 (l : List Int) (hl : l.length < 4611686018427387904) : ∀ (suf pre : List Int) (acc i : Int), l = pre ++ suf → i = (pre.length : Int) → U64 acc → (∀ x ∈ suf, U64 x) →
    f_num_Add.l0 l acc i = some (if acc + suf.sum < 18446744073709551616 then .inr (acc + suf.sum) else .inl (0, 5)) := by
  intro suf
  induction suf with
  | nil =>
    intro pre acc i h1 hi ha hs
    subst h1
    rw [f_num_Add.l0, if_neg (by simp [hi])]
    simp [ha.2]
  | cons x suf ih =>
    intro pre acc i h1 hi ha hs
    have hx := hs x (by simp)
    have hs' : ∀ y ∈ suf, U64 y := fun y hy => hs y (by simp [hy])
    have hnn : 0 ≤ suf.sum := isum_nonneg (fun y hy => (hs' y hy).1)
    rw [f_num_Add.l0, if_pos (by rw [h1]; simp [hi]; omega)]
    rw [at_mid h1 hi, sb, chkB ⟨ha.1, hx.1, by omega, by omega⟩]
    have hlen : (l.length : Int) = pre.length + (suf.length + 1) := by rw [h1]; simp
    by_cases hov : acc + x < 18446744073709551616
    · rw [if_neg (by simp; omega), wrap64 (by omega) (by omega), show (acc + x + 0) % 18446744073709551616 = acc + x by omega]
      rw [ih (pre ++ [x]) (acc + x) (i + 1) (by simp [h1]) (by simp; omega) ⟨by omega, hov⟩ hs']
      rw [List.sum_cons, Int.add_assoc]
    · rw [if_pos (by simp; omega), if_neg (by rw [List.sum_cons]; omega)]

theorem num_add (l : List Int) (hl : l.length < 4611686018427387904) (h : ∀ x ∈ l, U64 x) :
    f_num_Add.f l = some (if l.sum < 18446744073709551616 then (l.sum, 0) else (0, 5)) := by
  unfold f_num_Add.f
  rw [num_add_l0 l hl l [] 0 0 rfl rfl (by omega) h, sb, Int.zero_add]
  by_cases h : l.sum < 18446744073709551616
  · rw [if_pos h, if_pos h]
  · rw [if_neg h, if_neg h]
theorem num_add2 {a b : Int} (ha : U64 a) (hb : U64 b) : f_num_Add.f [a, b] = some (if a + b < 18446744073709551616 then (a + b, 0) else (0, 5)) := by
  rw [num_add [a, b] (by simp) (by simp; exact ⟨ha, hb⟩)]
  simp

end Go.Proofs.Yticdbkmekkbiiaa.PvGB3
