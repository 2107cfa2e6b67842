import Derived.Test.YticdbkmekkbiiaaPlHistB3
set_option linter.unusedVariables false
set_option linter.unusedSimpArgs false
/-! Bounds: schemas, steps, places. -/
namespace Go.Proofs.Yticdbkmekkbiiaa.PvGB3
open Go Go.Pv Go.Pv.GS

/-- A schema's steps divide the whole. -/
theorem stp_dvd {s : Int} (h : RightS s) : 262144 / stp s * stp s = 262144 := by
  have h1 := h.1
  have h2 := h.2
  have : s = -4 ∨ s = -3 ∨ s = -2 ∨ s = -1 ∨ s = 0 ∨ s = 1 ∨ s = 2 ∨ s = 3 ∨ s = 4 ∨ s = 5 ∨ s = 6 ∨ s = 7 ∨ s = 8 := by omega
  rcases this with rfl | rfl | rfl | rfl | rfl | rfl | rfl | rfl | rfl | rfl | rfl | rfl | rfl <;> decide

/-- A schema has an index. -/
def InS (s i : Int) : Prop := -262144 < i * stp s ∧ i * stp s ≤ 262144
instance (s i : Int) : Decidable (InS s i) := inferInstanceAs (Decidable (_ ∧ _))

theorem inS_iff {s i : Int} (h : RightS s) : InS s i ↔ -(262144 / stp s) + 1 ≤ i ∧ i ≤ 262144 / stp s := by
  have hp := stp_pos s
  have hd := stp_dvd h
  unfold InS
  generalize 262144 / stp s = q at *
  generalize stp s = st at *
  constructor
  · rintro ⟨h1, h2⟩
    constructor
    · have : -q * st < i * st := by rw [Int.neg_mul]; omega
      have := Int.lt_of_mul_lt_mul_right this (Int.le_of_lt hp); omega
    · have : i * st ≤ q * st := by omega
      exact Int.le_of_mul_le_mul_right this hp
  · rintro ⟨h1, h2⟩
    constructor
    · have := Int.mul_lt_mul_of_pos_right (show -q < i by omega) hp
      rw [Int.neg_mul] at this; omega
    · have := Int.mul_le_mul_of_nonneg_right h2 (Int.le_of_lt hp); omega
theorem inS_small {s i : Int} (hi : InS s i) : -262144 < i ∧ i ≤ 262144 := by
  have hp := stp_pos s
  obtain ⟨h1, h2⟩ := hi
  constructor
  · by_cases h : i ≤ -262144
    · have := Int.mul_le_mul_of_nonneg_right h (Int.le_of_lt hp)
      have h3 : -262144 * stp s ≤ -262144 * 1 := by
        have := Int.mul_le_mul_of_nonneg_left (show 1 ≤ stp s by omega) (show (0 : Int) ≤ 262144 by omega)
        omega
      omega
    · omega
  · by_cases h : 262144 < i
    · have := Int.mul_le_mul_of_nonneg_right (show 262145 ≤ i by omega) (Int.le_of_lt hp)
      have h3 := Int.mul_le_mul_of_nonneg_left (show 1 ≤ stp s by omega) (show (0 : Int) ≤ 262145 by omega)
      omega
    · omega

theorem in_T {s i : Int} (h : RightS s) : f_bound_In.f s i = some (decide (InS s i)) := by
  have hp := stp_pos s
  have hq : 0 ≤ 262144 / stp s ∧ 262144 / stp s ≤ 262144 := ⟨Int.ediv_nonneg (by omega) (by omega), Int.ediv_le_self _ (by omega)⟩
  unfold f_bound_In.f f_bound_Least.f
  rw [right_T h, most_T h]
  simp only [sb, if_pos]
  rw [wrap64 (n := 0 - _) (by omega) (by omega), wrap64 (by omega) (by omega), ifand, sb]
  congr 1
  rw [← Bool.decide_and, decide_eq_decide, inS_iff h]
  constructor <;> intro h <;> constructor <;> omega
theorem in_F {s i : Int} (h : ¬ RightS s) : f_bound_In.f s i = some false := by
  unfold f_bound_In.f
  rw [right_F h]; simp [sb]
theorem low_T {s i : Int} (h : RightS s) (hi : InS s i) : f_bound_Low.f s i = some ((i - 1) * stp s) := by
  have := inS_small hi
  unfold f_bound_Low.f
  rw [wrap64 (by omega) (by omega), units_T h (by omega)]; rfl
theorem units_in {s i : Int} (h : RightS s) (hi : InS s i) : f_bound_Units.f s i = some (i * stp s) := by
  have := inS_small hi
  exact units_T h (by omega)

/-! ### The reference -/
theorem ref_right (s : Int) : f_pluvialref04_Right.f s = some (decide (RightS s)) := by
  unfold f_pluvialref04_Right.f
  rw [ifand, ← Bool.decide_and]; rfl
theorem ref_step_l0 (s : Int) : ∀ (n : Nat) (x i : Int), i ≤ 8 → 8 - i = (n : Int) → -4 ≤ i → 0 ≤ x → x * 2 ^ n ≤ 4096 → f_pluvialref04_step.l0 x i = some (x * 2 ^ n) := by
  intro n
  induction n with
  | zero => intro x i h1 h2 h3 h4 h5; rw [f_pluvialref04_step.l0, if_neg (by simp; omega)]; simp
  | succ n ih =>
    intro x i h1 h2 h3 h4 h5
    have e : x * 2 ^ (n + 1) = x * 2 * 2 ^ n := by rw [Int.pow_succ, Int.mul_assoc, Int.mul_comm 2]
    have hp : (0 : Int) < 2 ^ n := Int.pow_pos (by omega)
    have hle : x * 2 ≤ 4096 := by
      have := Int.mul_le_mul_of_nonneg_left (show (1 : Int) ≤ 2 ^ n by omega) (show 0 ≤ x * 2 by omega)
      omega
    rw [f_pluvialref04_step.l0, if_pos (by simp; omega), wrap64 (n := x * 2) (by omega) (by omega), wrap64 (n := i + 1) (by omega) (by omega), ih (x * 2) (i + 1) (by omega) (by omega) (by omega) (by omega) (by omega), e]
theorem ref_step {s : Int} (h : RightS s) : f_pluvialref04_step.f s = some (stp s) := by
  unfold f_pluvialref04_step.f
  have h1 := h.1
  have h2 := h.2
  rw [ref_step_l0 s (8 - s).toNat 1 s h2 (by omega) h1 (by omega) (by rw [Int.one_mul]; exact stp_le h)]
  simp [stp]
theorem ref_units {s i : Int} (h : RightS s) (hi : -1000000000000 < i ∧ i < 1000000000000) : f_pluvialref04_Units.f s i = some (i * stp s) := by
  unfold f_pluvialref04_Units.f
  rw [ref_right, sb, if_neg (by simp [h]), ref_step h, sb]
  have h1 := stp_pos s
  have h2 := stp_le h
  have h3 : i * stp s ≤ 1000000000000 * 4096 := by
    by_cases h0 : 0 ≤ i
    · exact Int.mul_le_mul (by omega) h2 (by omega) (by omega)
    · have : i * stp s ≤ 0 := Int.mul_nonpos_of_nonpos_of_nonneg (by omega) (by omega); omega
  have h4 : -(1000000000000 * 4096) ≤ i * stp s := by
    by_cases h0 : 0 ≤ i
    · have : 0 ≤ i * stp s := Int.mul_nonneg h0 (by omega); omega
    · have : -i * stp s ≤ 1000000000000 * 4096 := Int.mul_le_mul (by omega) h2 (by omega) (by omega)
      rw [Int.neg_mul] at this; omega
  rw [wrap64 (by omega) (by omega)]
theorem ref_in {s i : Int} (h : RightS s) (hi : I64 i) : f_pluvialref04_In.f s i = some (decide (InS s i)) := by
  unfold f_pluvialref04_In.f
  rw [ref_right, sb, if_pos (by simp [h])]
  by_cases h1 : i > -262144
  · rw [if_pos (by simpa using h1)]
    by_cases h2 : i ≤ 262144
    · rw [if_pos (by simpa using h2), ref_units h (by omega), sb]
      by_cases h3 : i * stp s > -262144
      · rw [if_pos (by simpa using h3), sb, sb]
        congr 1
        rw [decide_eq_decide]
        exact ⟨fun h => ⟨h3, h⟩, fun h => h.2⟩
      · rw [if_neg (by simpa using h3), sb]
        have : ¬ InS s i := fun h => h3 h.1
        simp [this]
    · rw [if_neg (by simpa using h2), sb]
      have : ¬ InS s i := fun h => by have := inS_small h; omega
      simp [this]
  · rw [if_neg (by simpa using h1), sb]
    have : ¬ InS s i := fun h => by have := inS_small h; omega
    simp [this]

end Go.Proofs.Yticdbkmekkbiiaa.PvGB3
