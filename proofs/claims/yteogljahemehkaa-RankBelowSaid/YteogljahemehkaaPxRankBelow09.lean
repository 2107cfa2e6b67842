import Derived.Test.YteogljahemehkaaPxRankBelow08
set_option linter.unusedVariables false
set_option linter.unusedSimpArgs false
namespace Go.Proofs.Yteogljahemehkaa.PvGC
open Go Go.Pv Go.Pv.GS
def tot : List TBucket → Int → Int
  | [], _ => 0
  | b :: l, i => (if b.f0 = i then b.f1 else 0) + tot l i
structure Canon (l : List TBucket) : Prop where
  up : l.Pairwise (fun a b => a.f0 < b.f0)
  pos : ∀ b ∈ l, 0 < b.f1
structure TidyI (pre out : List TBucket) : Prop where
  canon : Canon out
  seen : ∀ o ∈ out, ∃ p ∈ pre, p.f0 = o.f0
  tots : ∀ i, tot out i = tot pre i
  u64 : ∀ o ∈ out, U64 o.f1
  len : out.length ≤ pre.length
end Go.Proofs.Yteogljahemehkaa.PvGC
set_option linter.unusedVariables false
set_option linter.unusedSimpArgs false
namespace Go.Proofs.Yteogljahemehkaa.PvGC
open Go Go.Pv Go.Pv.GS
def cnt (l : List TBucket) : Int := (l.map (·.f1)).sum
theorem right_eq (s : Int) : f_bound_Right.f s = some (decide (-4 ≤ s) && decide (s ≤ 8)) := by
  unfold f_bound_Right.f
  rw [ifand]; rfl
def RightS (s : Int) : Prop := -4 ≤ s ∧ s ≤ 8
instance (s : Int) : Decidable (RightS s) := inferInstanceAs (Decidable (_ ∧ _))
theorem right_T {s : Int} (h : RightS s) : f_bound_Right.f s = some true := by rw [right_eq]; simp [h.1, h.2]
def stp (s : Int) : Int := 2 ^ (8 - s).toNat
theorem stp_pos (s : Int) : 0 < stp s := by unfold stp; exact Int.pow_pos (by omega)
theorem stp_le {s : Int} (h : RightS s) : stp s ≤ 4096 := by
  have h1 := h.1
  have h2 := h.2
  have : s = -4 ∨ s = -3 ∨ s = -2 ∨ s = -1 ∨ s = 0 ∨ s = 1 ∨ s = 2 ∨ s = 3 ∨ s = 4 ∨ s = 5 ∨ s = 6 ∨ s = 7 ∨ s = 8 := by omega
  rcases this with rfl | rfl | rfl | rfl | rfl | rfl | rfl | rfl | rfl | rfl | rfl | rfl | rfl <;> decide
theorem shift_eq {s : Int} (h : RightS s) : min (Int.toNat (IntKind.u64.wrap (IntKind.i64.wrap ((8 : Int) - s)))) 64 = (8 - s).toNat := by
  have h1 := h.1
  have h2 := h.2
  rw [wrap64 (by omega) (by omega), wrapU (by omega) (by omega)]; omega
theorem units_T {s i : Int} (h : RightS s) (hi : -1000000000000 < i ∧ i < 1000000000000) : f_bound_Units.f s i = some (i * stp s) := by
  unfold f_bound_Units.f f_bound_shift.f
  rw [right_T h, sb, if_neg (by simp), sb, chkB (u64_wrap _).1, shift_eq h]
  have h1 := stp_pos s
  have h2 := stp_le h
  have h3 : i * stp s ≤ 1000000000000 * 4096 := by
    by_cases h0 : 0 ≤ i
    · exact Int.mul_le_mul (by omega) h2 (by omega) (by omega)
    · have : i * stp s ≤ 0 := Int.mul_nonpos_of_nonpos_of_nonneg (by omega) (by omega); omega
  have h4 : -(1000000000000 * 4096) ≤ i * stp s := by
    by_cases h0 : 0 ≤ i
    · have : 0 ≤ i * stp s := Int.mul_nonneg h0 (by omega); omega
    · have : -i * stp s ≤ 1000000000000 * 4096 := Int.mul_le_mul (by omega) h2 (by omega) (by omega)
      rw [Int.neg_mul] at this; omega
  show some (IntKind.i64.wrap (i * stp s)) = _
  rw [wrap64 (by omega) (by omega)]
structure Fits (h : THist) : Prop where
  kind : I64 h.f0
  schema : I64 h.f1
  zeroAt : I64 h.f2
  zero : U64 h.f3
  count : U64 h.f4
  sum : I64 h.f5
  pos : ∀ b ∈ h.f6, I64 b.f0 ∧ U64 b.f1
  neg : ∀ b ∈ h.f7, I64 b.f0 ∧ U64 b.f1
theorem fits_of {h : THist} (r : RHist h) : Fits h := ⟨r.r0, r.r1, r.r2, r.r3, r.r4, r.r5, fun b hb => let q := r.r6.2 b hb; ⟨q.r0, q.r1⟩, fun b hb => let q := r.r7.2 b hb; ⟨q.r0, q.r1⟩⟩
end Go.Proofs.Yteogljahemehkaa.PvGC
set_option linter.unusedVariables false
set_option linter.unusedSimpArgs false
namespace Go.Proofs.Yteogljahemehkaa.PvGC
open Go Go.Pv Go.Pv.GS
def InS (s i : Int) : Prop := -262144 < i * stp s ∧ i * stp s ≤ 262144
instance (s i : Int) : Decidable (InS s i) := inferInstanceAs (Decidable (_ ∧ _))
theorem inS_small {s i : Int} (hi : InS s i) : -262144 < i ∧ i ≤ 262144 := by
  have hp := stp_pos s
  obtain ⟨h1, h2⟩ := hi
  constructor
  · by_cases h : i ≤ -262144
    · have := Int.mul_le_mul_of_nonneg_right h (Int.le_of_lt hp)
      have h3 : -262144 * stp s ≤ -262144 * 1 := by
        have := Int.mul_le_mul_of_nonneg_left (show 1 ≤ stp s by omega) (show (0 : Int) ≤ 262144 by omega)
        omega
      omega
    · omega
  · by_cases h : 262144 < i
    · have := Int.mul_le_mul_of_nonneg_right (show 262145 ≤ i by omega) (Int.le_of_lt hp)
      have h3 := Int.mul_le_mul_of_nonneg_left (show 1 ≤ stp s by omega) (show (0 : Int) ≤ 262145 by omega)
      omega
    · omega
theorem low_T {s i : Int} (h : RightS s) (hi : InS s i) : f_bound_Low.f s i = some ((i - 1) * stp s) := by
  have := inS_small hi
  unfold f_bound_Low.f
  rw [wrap64 (by omega) (by omega), units_T h (by omega)]; rfl
theorem units_in {s i : Int} (h : RightS s) (hi : InS s i) : f_bound_Units.f s i = some (i * stp s) := by
  have := inS_small hi
  exact units_T h (by omega)
theorem ref_right (s : Int) : f_pluvialref04_Right.f s = some (decide (RightS s)) := by
  unfold f_pluvialref04_Right.f
  rw [ifand, ← Bool.decide_and]; rfl
theorem ref_step_l0 (s : Int) : ∀ (n : Nat) (x i : Int), i ≤ 8 → 8 - i = (n : Int) → -4 ≤ i → 0 ≤ x → x * 2 ^ n ≤ 4096 → f_pluvialref04_step.l0 x i = some (x * 2 ^ n) := by
  intro n
  induction n with
  | zero => intro x i h1 h2 h3 h4 h5; rw [f_pluvialref04_step.l0, if_neg (by simp; omega)]; simp
  | succ n ih =>
    intro x i h1 h2 h3 h4 h5
    have e : x * 2 ^ (n + 1) = x * 2 * 2 ^ n := by rw [Int.pow_succ, Int.mul_assoc, Int.mul_comm 2]
    have hp : (0 : Int) < 2 ^ n := Int.pow_pos (by omega)
    have hle : x * 2 ≤ 4096 := by
      have := Int.mul_le_mul_of_nonneg_left (show (1 : Int) ≤ 2 ^ n by omega) (show 0 ≤ x * 2 by omega)
      omega
    rw [f_pluvialref04_step.l0, if_pos (by simp; omega), wrap64 (n := x * 2) (by omega) (by omega), wrap64 (n := i + 1) (by omega) (by omega), ih (x * 2) (i + 1) (by omega) (by omega) (by omega) (by omega) (by omega), e]
theorem ref_step {s : Int} (h : RightS s) : f_pluvialref04_step.f s = some (stp s) := by
  unfold f_pluvialref04_step.f
  have h1 := h.1
  have h2 := h.2
  rw [ref_step_l0 s (8 - s).toNat 1 s h2 (by omega) h1 (by omega) (by rw [Int.one_mul]; exact stp_le h)]
  simp [stp]
theorem ref_units {s i : Int} (h : RightS s) (hi : -1000000000000 < i ∧ i < 1000000000000) : f_pluvialref04_Units.f s i = some (i * stp s) := by
  unfold f_pluvialref04_Units.f
  rw [ref_right, sb, if_neg (by simp [h]), ref_step h, sb]
  have h1 := stp_pos s
  have h2 := stp_le h
  have h3 : i * stp s ≤ 1000000000000 * 4096 := by
    by_cases h0 : 0 ≤ i
    · exact Int.mul_le_mul (by omega) h2 (by omega) (by omega)
    · have : i * stp s ≤ 0 := Int.mul_nonpos_of_nonpos_of_nonneg (by omega) (by omega); omega
  have h4 : -(1000000000000 * 4096) ≤ i * stp s := by
    by_cases h0 : 0 ≤ i
    · have : 0 ≤ i * stp s := Int.mul_nonneg h0 (by omega); omega
    · have : -i * stp s ≤ 1000000000000 * 4096 := Int.mul_le_mul (by omega) h2 (by omega) (by omega)
      rw [Int.neg_mul] at this; omega
  rw [wrap64 (by omega) (by omega)]
theorem ref_in {s i : Int} (h : RightS s) (hi : I64 i) : f_pluvialref04_In.f s i = some (decide (InS s i)) := by
  unfold f_pluvialref04_In.f
  rw [ref_right, sb, if_pos (by simp [h])]
  by_cases h1 : i > -262144
  · rw [if_pos (by simpa using h1)]
    by_cases h2 : i ≤ 262144
    · rw [if_pos (by simpa using h2), ref_units h (by omega), sb]
      by_cases h3 : i * stp s > -262144
      · rw [if_pos (by simpa using h3), sb, sb]
        congr 1
        rw [decide_eq_decide]
        exact ⟨fun h => ⟨h3, h⟩, fun h => h.2⟩
      · rw [if_neg (by simpa using h3), sb]
        have : ¬ InS s i := fun h => h3 h.1
        simp [this]
    · rw [if_neg (by simpa using h2), sb]
      have : ¬ InS s i := fun h => by have := inS_small h; omega
      simp [this]
  · rw [if_neg (by simpa using h1), sb]
    have : ¬ InS s i := fun h => by have := inS_small h; omega
    simp [this]
end Go.Proofs.Yteogljahemehkaa.PvGC
set_option linter.unusedVariables false
set_option linter.unusedSimpArgs false
namespace Go.Proofs.Yteogljahemehkaa.PvGC
open Go Go.Pv Go.Pv.GS
structure BOk (s z : Int) (b : TBucket) : Prop where
  ins : InS s b.f0
  pos : 0 < b.f1
  low : z ≤ (b.f0 - 1) * stp s
def Up : Option Int → List TBucket → Prop
  | _, [] => True
  | p, b :: l => (∀ q, p = some q → q < b.f0) ∧ Up (some b.f0) l
theorem up_iff : ∀ (l : List TBucket) (p : Option Int), Up p l ↔ (∀ q, p = some q → ∀ b ∈ l, q < b.f0) ∧ l.Pairwise (fun a b => a.f0 < b.f0)
  | [], p => by simp [Up]
  | x :: l, p => by
    rw [Up, up_iff l, List.pairwise_cons]
    constructor
    · rintro ⟨h1, h2, h3⟩
      refine ⟨fun q hq b hb => ?_, fun b hb => h2 _ rfl b hb, h3⟩
      have h4 := h1 q hq
      rcases List.mem_cons.1 hb with rfl | hb
      · exact h4
      · have := h2 _ rfl b hb; omega
    · rintro ⟨h1, h2, h3⟩
      exact ⟨fun q hq => h1 q hq x (by simp), fun q hq b hb => by cases hq; exact h2 b hb, h3⟩
structure Side (s z : Int) (l : List TBucket) : Prop where
  len : l.length ≤ 512
  ok : ∀ b ∈ l, BOk s z b
  up : l.Pairwise (fun a b => a.f0 < b.f0)
structure Valid (h : THist) : Prop where
  kind : h.f0 = 0 ∨ h.f0 = 1
  schema : RightS h.f1
  zero : h.f2 = -524288 ∨ (-262144 < h.f2 ∧ h.f2 ≤ 262144)
  pos : Side h.f1 h.f2 h.f6
  neg : Side h.f1 h.f2 h.f7
  total : cnt h.f6 + cnt h.f7 + h.f3 < 18446744073709551616
  count : h.f4 = cnt h.f6 + cnt h.f7 + h.f3
theorem last_pre {l pre : List TBucket} {x : TBucket} {suf : List TBucket} {i : Int} (h1 : l = pre ++ x :: suf) (hi : i = (pre.length : Int)) (h0 : 0 < i) (hl : l.length < 1000000000) :
    ∃ q, (pre.getLast?).map (·.f0) = some q ∧ ∃ y, at? l (IntKind.i64.wrap (i - 1)) = some y ∧ y.f0 = q := by
  rcases List.eq_nil_or_concat pre with rfl | ⟨P, p, rfl⟩
  · simp at hi; omega
  · simp only [List.concat_eq_append] at *
    have hlen : l.length = P.length + 1 + (suf.length + 1) := by rw [h1]; simp; omega
    have hi2 : i = (P.length : Int) + 1 := by rw [hi]; simp
    rw [wrap64 (by omega) (by omega)]
    exact ⟨p.f0, by simp, p, at_mid (pre := P) (suf := x :: suf) (by simp [h1]) (by omega), rfl⟩
theorem no_pre {pre : List TBucket} {i : Int} (hi : i = (pre.length : Int)) (h0 : ¬ 0 < i) : (pre.getLast?).map (·.f0) = none := by
  have : pre = [] := List.length_eq_zero_iff.1 (by omega)
  subst this; rfl
theorem ref_add_l0 (l : List Int) (hl : l.length < 4611686018427387904) : ∀ (suf pre : List Int) (acc i : Int), l = pre ++ suf → i = (pre.length : Int) → U64 acc → (∀ x ∈ suf, U64 x) →
    f_pluvialref01_Add.l0 l acc i = some (if acc + suf.sum < 18446744073709551616 then .inr (acc + suf.sum) else .inl (0, 5)) := by
  intro suf
  induction suf with
  | nil =>
    intro pre acc i h1 hi ha hs
    subst h1
    rw [f_pluvialref01_Add.l0, if_neg (by simp [hi])]
    simp [ha.2]
  | cons x suf ih =>
    intro pre acc i h1 hi ha hs
    have hx := hs x (by simp)
    have hs' : ∀ y ∈ suf, U64 y := fun y hy => hs y (by simp [hy])
    have hnn : 0 ≤ suf.sum := isum_nonneg (fun y hy => (hs' y hy).1)
    have hlen : (l.length : Int) = pre.length + (suf.length + 1) := by rw [h1]; simp
    rw [f_pluvialref01_Add.l0, if_pos (by rw [h1]; simp [hi]; omega), at_mid h1 hi, sb, wrapU (n := 18446744073709551615 - acc) (by omega) (by omega)]
    by_cases hov : acc + x < 18446744073709551616
    · rw [if_neg (by simp; omega), wrap64 (by omega) (by omega), wrapU (by omega) (by omega)]
      rw [ih (pre ++ [x]) (acc + x) (i + 1) (by simp [h1]) (by simp; omega) ⟨by omega, hov⟩ hs']
      rw [List.sum_cons, Int.add_assoc]
    · rw [if_pos (by simp; omega), if_neg (by rw [List.sum_cons]; omega)]
theorem ref_add (l : List Int) (hl : l.length < 4611686018427387904) (h : ∀ x ∈ l, U64 x) :
    f_pluvialref01_Add.f l = some (if l.sum < 18446744073709551616 then (l.sum, 0) else (0, 5)) := by
  unfold f_pluvialref01_Add.f
  rw [ref_add_l0 l hl l [] 0 0 rfl rfl (by omega) h, sb, Int.zero_add]
  by_cases h : l.sum < 18446744073709551616
  · rw [if_pos h, if_pos h]
  · rw [if_neg h, if_neg h]
theorem ref_check_l1 (h : THist) (x124 : Int) (l : List TBucket) (hs : RightS h.f1) (hl : l.length < 1000000) : ∀ (suf pre : List TBucket) (acc : List Int) (i : Int), l = pre ++ suf → i = (pre.length : Int) → acc.length + suf.length < 10000000 → (∀ b ∈ suf, I64 b.f0 ∧ U64 b.f1) →
    ∃ r, f_pluvialref05_Check.l1 h x124 l acc i = some r ∧ (∀ c, r = .inl c → c ≠ 0) ∧ ((∃ a, r = .inr a) ↔ (∀ b ∈ suf, BOk h.f1 h.f2 b) ∧ Up ((pre.getLast?).map (·.f0)) suf) ∧ ∀ a, r = .inr a → a = acc ++ suf.map (·.f1) := by
  intro suf
  induction suf with
  | nil =>
    intro pre acc i h1 hi _ _
    subst h1
    rw [f_pluvialref05_Check.l1, if_neg (by simp [hi])]
    exact ⟨_, rfl, by simp, by simp [Up], by simp⟩
  | cons x suf ih =>
    intro pre acc i h1 hi ha hU
    have hx := hU x (by simp)
    have hlen : (l.length : Int) = pre.length + (suf.length + 1) := by rw [h1]; simp
    simp only [List.length_cons] at ha
    rw [f_pluvialref05_Check.l1, if_pos (by simp; omega), at_mid h1 hi, sb, ref_in hs hx.1, sb]
    by_cases c1 : InS h.f1 x.f0
    case neg =>
      rw [if_pos (by simp [c1])]
      exact ⟨_, rfl, by simp, by simp; intro h; exact absurd h.ins c1, by simp⟩
    rw [if_neg (by simp [c1])]
    have hsm := inS_small c1
    have hprev : ∃ c : Bool, ((if (decide (i > (0 : Int))) = true then ((at? l (IntKind.i64.wrap (i - (1 : Int)))) >>= fun b168 => some (decide (x.f0 ≤ b168.f0))) else (some false)) : Option (Bool)) = some c ∧ (c = false ↔ ∀ q, (pre.getLast?).map (·.f0) = some q → q < x.f0) := by
      by_cases h0 : 0 < i
      · obtain ⟨q, e1, y, e2, e3⟩ := last_pre h1 hi h0 (by omega)
        rw [if_pos (by simpa using h0), e2, sb]
        exact ⟨_, rfl, by rw [e1, e3]; simp⟩
      · rw [if_neg (by simpa using h0)]
        exact ⟨_, rfl, by rw [no_pre hi h0]; simp⟩
    obtain ⟨c, ec, hc⟩ := hprev
    rw [ec, sb, wrap64 (n := x.f0 - 1) (by omega) (by omega), ref_units hs (by omega)]
    cases c with
    | true =>
      rw [if_pos rfl]
      refine ⟨_, rfl, by simp, by simp; intro _ _ h2; exact absurd (hc.2 h2.1) (by simp), by simp⟩
    | false =>
      rw [if_neg (by simp)]
      by_cases c2 : x.f1 = 0
      · rw [if_pos (by simpa using c2)]
        exact ⟨_, rfl, by simp, by simp; intro h; have := h.pos; omega, by simp⟩
      rw [if_neg (by simpa using c2), sb]
      by_cases c3 : (x.f0 - 1) * stp h.f1 < h.f2
      · rw [if_pos (by simpa using c3)]
        exact ⟨_, rfl, by simp, by simp; intro h; have := h.low; omega, by simp⟩
      rw [if_neg (by simpa using c3), chkB (by simp; omega), wrap64 (n := i + 1) (by omega) (by omega)]
      obtain ⟨r, e, e1, e2, e3⟩ := ih (pre ++ [x]) (acc ++ [x.f1]) (i + 1) (by simp [h1]) (by simp; omega) (by simp; omega) (fun b hb => hU b (by simp [hb]))
      refine ⟨r, e, e1, ?_, fun a ha => by rw [e3 a ha]; simp⟩
      rw [e2]
      simp only [List.getLast?_append, List.getLast?_singleton, Option.some_or, Option.map_some, Up, List.forall_mem_cons]
      have hb : BOk h.f1 h.f2 x := ⟨c1, by omega, by omega⟩
      constructor
      · rintro ⟨a, b⟩; exact ⟨⟨hb, a⟩, hc.1 rfl, b⟩
      · rintro ⟨⟨_, a⟩, _, b⟩; exact ⟨a, b⟩
theorem ref_check_side (h : THist) (x124 : Int) (l : List TBucket) (acc : List Int) (hs : RightS h.f1) (hl : l.length < 1000000) (ha : acc.length < 1000000) (hU : ∀ b ∈ l, I64 b.f0 ∧ U64 b.f1) :
    ∃ r : Int ⊕ List Int, (if (decide ((l.length : Int) > (512 : Int))) = true then (some (.inl 9)) else (f_pluvialref05_Check.l1 h x124 l acc 0)) = some r ∧ (∀ c, r = .inl c → c ≠ 0) ∧ ((∃ a, r = .inr a) ↔ Side h.f1 h.f2 l) ∧ ∀ a, r = .inr a → a = acc ++ l.map (·.f1) := by
  by_cases h0 : l.length > 512
  · rw [if_pos (by simp; omega)]
    exact ⟨_, rfl, by simp, by simp; intro h; have := h.len; omega, by simp⟩
  · rw [if_neg (by simp; omega)]
    obtain ⟨r, e, e1, e2, e3⟩ := ref_check_l1 h x124 l hs hl l [] acc 0 rfl rfl (by omega) hU
    refine ⟨r, e, e1, e2.trans ⟨fun ⟨h1, h2⟩ => ⟨by omega, h1, ((up_iff l _).1 h2).2⟩, fun h => ⟨h.ok, (up_iff l _).2 ⟨by simp, h.up⟩⟩⟩, e3⟩
theorem ref_check_iff (h : THist) (hf : Fits h) (hp : h.f6.length < 1000000) (hn : h.f7.length < 1000000) : ∃ r, f_pluvialref05_Check.f h = some r ∧ (r = 0 ↔ Valid h) := by
  unfold f_pluvialref05_Check.f
  have hk : ((if (h.f0 != (0 : Int)) = true then (some (h.f0 != (1 : Int))) else (some false)) : Option (Bool)) = some (!decide (h.f0 = 0 ∨ h.f0 = 1)) := by
    by_cases h1 : h.f0 = 0
    · simp [h1]
    · by_cases h2 : h.f0 = 1 <;> simp [h1, h2]
  rw [hk, sb]
  by_cases c1 : h.f0 = 0 ∨ h.f0 = 1
  case neg => rw [if_pos (by simpa using c1)]; exact ⟨_, rfl, by simp; intro h; exact c1 h.kind⟩
  rw [if_neg (by rw [decide_eq_true c1]; decide), ref_right, sb]
  by_cases c2 : RightS h.f1
  case neg => rw [if_pos (by simp [c2])]; exact ⟨_, rfl, by simp; intro h; exact c2 h.schema⟩
  rw [if_neg (by simp [c2])]
  have hz : ((if (h.f2 != (-524288)) = true then (if (decide (h.f2 ≤ (-262144))) = true then (some true) else (some (decide (h.f2 > (262144 : Int))))) else (some false)) : Option (Bool)) = some (!decide (h.f2 = -524288 ∨ (-262144 < h.f2 ∧ h.f2 ≤ 262144))) := by
    by_cases h1 : h.f2 = -524288
    · simp [h1]
    · by_cases h2 : h.f2 ≤ -262144
      · simp [h1, h2]
      · have h4 : -262144 < h.f2 := by omega
        by_cases h3 : h.f2 ≤ 262144
        · simp [h1, h2, h3, h4]
        · simp [h1, h2, h3, h4]; omega
  rw [hz, sb]
  by_cases c3 : h.f2 = -524288 ∨ (-262144 < h.f2 ∧ h.f2 ≤ 262144)
  case neg => rw [if_pos (by simp [c3])]; exact ⟨_, rfl, by simp; intro h; exact c3 h.zero⟩
  rw [if_neg (by simp [c3])]
  obtain ⟨r1, e1, n1, i1, j1⟩ := ref_check_side h 0 h.f6 [h.f3] c2 hp (by simp) hf.pos
  have w1 : IntKind.i64.wrap (0 + 1) = 1 := by decide
  have w2 : IntKind.i64.wrap (1 + 1) = 2 := by decide
  have step : ∀ (k : Int) (l : List TBucket) (acc : List Int), (k = 0 ∧ l = h.f6 ∨ k = 1 ∧ l = h.f7) → f_pluvialref05_Check.l0 h acc k = ((if (decide ((l.length : Int) > (512 : Int))) = true then (some (.inl 9)) else (f_pluvialref05_Check.l1 h k l acc 0)) >>= fun (oo : Int ⊕ List Int) => match oo with | .inl rr => (some (.inl rr)) | .inr x181 => (f_pluvialref05_Check.l0 h x181 (k + 1))) := by
    intro k l acc hk
    rcases hk with ⟨rfl, rfl⟩ | ⟨rfl, rfl⟩
    · rw [f_pluvialref05_Check.l0, if_pos (by decide), if_neg (by decide), sb, w1, bind_iteB]; rfl
    · rw [f_pluvialref05_Check.l0, if_pos (by decide), if_pos (by decide), sb, w2, bind_iteB]; rfl
  rw [step 0 h.f6 _ (.inl ⟨rfl, rfl⟩), e1, sb]
  cases r1 with
  | inl c => exact ⟨c, rfl, fun h => absurd h (n1 c rfl), fun h => by obtain ⟨a, e⟩ := i1.2 h.pos; cases e⟩
  | inr a1 =>
    have hv1 := i1.1 ⟨_, rfl⟩
    have ha1 := j1 a1 rfl
    have hl1 := hv1.len
    obtain ⟨r2, e2, n2, i2, j2⟩ := ref_check_side h 1 h.f7 a1 c2 hn (by rw [ha1]; simp; omega) hf.neg
    simp only []
    rw [show (0 : Int) + 1 = 1 from rfl, step 1 h.f7 _ (.inr ⟨rfl, rfl⟩), e2, sb]
    cases r2 with
    | inl c => exact ⟨c, rfl, fun h => absurd h (n2 c rfl), fun h => by obtain ⟨a, e⟩ := i2.2 h.neg; cases e⟩
    | inr a2 =>
      have hv2 := i2.1 ⟨_, rfl⟩
      have ha2 := j2 a2 rfl
      have hl2 := hv2.len
      simp only []
      rw [show (1 : Int) + 1 = 2 from rfl, f_pluvialref05_Check.l0, if_neg (by decide), sb]
      simp only []
      have hall : a2 = [h.f3] ++ h.f6.map (·.f1) ++ h.f7.map (·.f1) := by rw [ha2, ha1]
      have hsum : a2.sum = cnt h.f6 + cnt h.f7 + h.f3 := by rw [hall]; simp [cnt]; omega
      rw [ref_add a2 (by rw [hall]; simp; omega) (by
        intro x hx
        rw [hall] at hx
        simp only [List.mem_append, List.mem_singleton, List.mem_map] at hx
        rcases hx with (rfl | ⟨b, hb, rfl⟩) | ⟨b, hb, rfl⟩
        · exact hf.zero
        · exact (hf.pos b hb).2
        · exact (hf.neg b hb).2), sb, hsum]
      by_cases c4 : cnt h.f6 + cnt h.f7 + h.f3 < 18446744073709551616
      case neg => rw [if_neg c4, if_pos (by simp)]; exact ⟨_, rfl, by simp; intro h; exact c4 h.total⟩
      rw [if_pos c4, if_neg (by simp)]
      by_cases c5 : cnt h.f6 + cnt h.f7 + h.f3 = h.f4
      · rw [if_neg (by simpa using c5)]
        exact ⟨0, rfl, fun _ => ⟨c1, c2, c3, hv1, hv2, c4, c5.symm⟩, fun _ => rfl⟩
      · rw [if_pos (by simpa using c5)]
        exact ⟨_, rfl, by simp; intro h; exact c5 h.count.symm⟩
end Go.Proofs.Yteogljahemehkaa.PvGC
set_option linter.unusedVariables false
set_option linter.unusedSimpArgs false
namespace Go.Proofs.Yteogljahemehkaa.PvGC
open Go Go.Pv Go.Pv.GS
open Classical
theorem awake08 : f_pluviallaw08_awake.f = some true := by cbv
structure Right8 (h : THist) : Prop where
  pos : h.f6.length ≤ 100
  neg : h.f7.length ≤ 100
  valid : Valid h
theorem right8 (h : THist) (hf : RHist h) : f_pluviallaw08_right.f h = some (decide (Right8 h)) := by
  unfold f_pluviallaw08_right.f
  by_cases h1 : h.f6.length ≤ 100
  case neg => rw [if_neg (by simp; omega), sb, decide_eq_false (fun r => h1 r.pos)]
  rw [if_pos (by simp; omega)]
  by_cases h2 : h.f7.length ≤ 100
  case neg => rw [if_neg (by simp; omega), sb, decide_eq_false (fun r => h2 r.neg)]
  rw [if_pos (by simp; omega)]
  obtain ⟨r, e, i⟩ := ref_check_iff h (fits_of hf) (by omega) (by omega)
  rw [e, sb, sb]
  by_cases hv : Valid h
  · rw [decide_eq_true (⟨h1, h2, hv⟩ : Right8 h), i.2 hv]; rfl
  · rw [decide_eq_false (fun r => hv r.valid)]
    have : r ≠ 0 := fun h => hv (i.1 h)
    simp [this]
abbrev cellN (s : Int) (b : TBucket) : Trank_Cell := ⟨⟨-1, s, b.f0⟩, b.f1⟩
abbrev cellP (s : Int) (b : TBucket) : Trank_Cell := ⟨⟨1, s, b.f0⟩, b.f1⟩
def cellZ (z : Int) : List Trank_Cell := if 0 < z then [⟨⟨0, 0, 0⟩, z⟩] else []
def cells (h : THist) : List Trank_Cell := (h.f7.reverse.map (cellN h.f1) ++ cellZ h.f3) ++ h.f6.map (cellP h.f1)
abbrev rc (c : Trank_Cell) : Tpluvialref08_Cell := ⟨c.f0.f0, c.f0.f1, c.f0.f2, c.f1⟩
theorem order_l0 (h : THist) (hl : h.f7.length < 1000000) : ∀ (suf pre : List TBucket) (out : List Trank_Cell), h.f7.reverse = pre ++ suf → out.length ≤ pre.length →
    f_rank_Order.l0 h out ((suf.length : Int) - 1) = some (out ++ suf.map (cellN h.f1)) := by
  intro suf
  induction suf with
  | nil => intro pre out h1 h2; rw [f_rank_Order.l0, if_neg (by simp)]; simp
  | cons x suf ih =>
    intro pre out h1 h2
    have hlen : h.f7.length = pre.length + (suf.length + 1) := by rw [← List.length_reverse, h1]; simp
    have hx : at? h.f7 (((x :: suf).length : Int) - 1) = some x := by
      refine at_nat (k := suf.length) (by simp) ?_
      have : h.f7 = (pre ++ x :: suf).reverse := by rw [← h1]; simp
      rw [this]; simp
    rw [f_rank_Order.l0, if_pos (by simp), hx, sb, chkB (by simp; omega)]
    have e : IntKind.i64.wrap ((((x :: suf).length : Int) - 1) - 1) = (suf.length : Int) - 1 := by rw [wrap64 (by simp; omega) (by simp; omega)]; simp
    rw [e]
    have := ih (pre ++ [x]) (out ++ [cellN h.f1 x]) (by simp [h1]) (by simp; omega)
    simp only [cellN] at this ⊢
    rw [this]; simp [cellN]
theorem order_l1 (h : THist) (hl : h.f6.length < 1000000) : ∀ (suf pre : List TBucket) (out : List Trank_Cell) (i : Int), h.f6 = pre ++ suf → i = (pre.length : Int) → out.length ≤ 1000001 + pre.length →
    f_rank_Order.l1 h out i = some (out ++ suf.map (cellP h.f1)) := by
  intro suf
  induction suf with
  | nil => intro pre out i h1 hi h2; rw [f_rank_Order.l1, if_neg (by rw [h1]; simp [hi])]; simp
  | cons x suf ih =>
    intro pre out i h1 hi h2
    have hlen : h.f6.length = pre.length + (suf.length + 1) := by rw [h1]; simp
    rw [f_rank_Order.l1, if_pos (by simp; omega), at_mid h1 hi, sb, chkB (by simp; omega), wrap64 (by omega) (by omega)]
    have := ih (pre ++ [x]) (out ++ [cellP h.f1 x]) (i + 1) (by simp [h1]) (by simp; omega) (by simp; omega)
    simp only [cellP] at this ⊢
    rw [this]; simp [cellP]
theorem order_eq (h : THist) (hp : h.f6.length < 1000000) (hn : h.f7.length < 1000000) : f_rank_Order.f h = some (cells h) := by
  unfold f_rank_Order.f
  rw [wrap64 (by omega) (by omega)]
  have e := order_l0 h hn h.f7.reverse [] [] (by simp) (by simp)
  rw [List.length_reverse] at e
  rw [e, sb]
  have key : ∀ o : List Trank_Cell, o.length ≤ 1000001 → ((f_rank_Order.l1 h o 0) >>= fun x => some x) = some (o ++ h.f6.map (cellP h.f1)) := by
    intro o ho
    rw [order_l1 h hp h.f6 [] o 0 rfl rfl (by simp; omega), sb]
  by_cases hz : h.f3 > 0
  · rw [if_pos (by simpa using hz), chkB (by simp; omega), sb, key _ (by simp; omega)]
    simp [cells, cellZ, hz]
  · rw [if_neg (by simpa using hz), sb, key _ (by simp; omega)]
    simp [cells, cellZ, hz]
theorem ref_order_l0 (h : THist) (hl : h.f7.length < 1000000) : ∀ (suf pre : List TBucket) (out : List Tpluvialref08_Cell) (i : Int), h.f7.reverse = pre ++ suf → i = (pre.length : Int) → out.length ≤ pre.length →
    f_pluvialref08_Order.l0 h out i = some (out ++ suf.map (fun b => rc (cellN h.f1 b))) := by
  intro suf
  induction suf with
  | nil =>
    intro pre out i h1 hi h2
    have : h.f7.length = pre.length := by rw [← List.length_reverse, h1]; simp
    rw [f_pluvialref08_Order.l0, if_neg (by simp; omega)]; simp
  | cons x suf ih =>
    intro pre out i h1 hi h2
    have hlen : h.f7.length = pre.length + (suf.length + 1) := by rw [← List.length_reverse, h1]; simp
    have hx : at? h.f7 (((h.f7.length : Int) - 1) - i) = some x := by
      refine at_nat (k := suf.length) (by omega) ?_
      have : h.f7 = (pre ++ x :: suf).reverse := by rw [← h1]; simp
      rw [this]; simp
    rw [f_pluvialref08_Order.l0, if_pos (by simp; omega), wrap64 (n := (h.f7.length : Int) - 1) (by omega) (by omega), wrap64 (n := ((h.f7.length : Int) - 1) - i) (by omega) (by omega), hx, sb, chkB (by simp; omega), wrap64 (by omega) (by omega)]
    have := ih (pre ++ [x]) (out ++ [rc (cellN h.f1 x)]) (i + 1) (by simp [h1]) (by simp; omega) (by simp; omega)
    simp only [cellN, rc] at this ⊢
    rw [this]; simp
theorem ref_order_l1 (h : THist) (hl : h.f6.length < 1000000) : ∀ (suf pre : List TBucket) (out : List Tpluvialref08_Cell) (i : Int), h.f6 = pre ++ suf → i = (pre.length : Int) → out.length ≤ 1000001 + pre.length →
    f_pluvialref08_Order.l1 h out i = some (out ++ suf.map (fun b => rc (cellP h.f1 b))) := by
  intro suf
  induction suf with
  | nil => intro pre out i h1 hi h2; rw [f_pluvialref08_Order.l1, if_neg (by rw [h1]; simp [hi])]; simp
  | cons x suf ih =>
    intro pre out i h1 hi h2
    have hlen : h.f6.length = pre.length + (suf.length + 1) := by rw [h1]; simp
    rw [f_pluvialref08_Order.l1, if_pos (by simp; omega), at_mid h1 hi, sb, chkB (by simp; omega), wrap64 (by omega) (by omega)]
    have := ih (pre ++ [x]) (out ++ [rc (cellP h.f1 x)]) (i + 1) (by simp [h1]) (by simp; omega) (by simp; omega)
    simp only [cellP, rc] at this ⊢
    rw [this]; simp
theorem ref_order_eq (h : THist) (hp : h.f6.length < 1000000) (hn : h.f7.length < 1000000) : f_pluvialref08_Order.f h = some ((cells h).map rc) := by
  unfold f_pluvialref08_Order.f
  rw [ref_order_l0 h hn h.f7.reverse [] [] 0 (by simp) rfl (by simp), sb]
  have key : ∀ o : List Tpluvialref08_Cell, o.length ≤ 1000001 → ((f_pluvialref08_Order.l1 h o 0) >>= fun x => some x) = some (o ++ h.f6.map (fun b => rc (cellP h.f1 b))) := by
    intro o ho
    rw [ref_order_l1 h hp h.f6 [] o 0 rfl rfl (by simp; omega), sb]
  by_cases hz : h.f3 > 0
  · rw [if_pos (by simpa using hz), chkB (by simp; omega), sb, key _ (by simp; omega)]
    simp [cells, cellZ, hz, rc, Function.comp_def]
  · rw [if_neg (by simpa using hz), sb, key _ (by simp; omega)]
    simp [cells, cellZ, hz, Function.comp_def]
def csum (l : List Trank_Cell) : Int := (l.map (·.f1)).sum
theorem csum_cons (c : Trank_Cell) (l : List Trank_Cell) : csum (c :: l) = c.f1 + csum l := by simp [csum]
theorem csum_append (a b : List Trank_Cell) : csum (a ++ b) = csum a + csum b := by simp [csum]
theorem csum_nonneg {l : List Trank_Cell} (h : ∀ c ∈ l, 0 < c.f1) : 0 ≤ csum l := isum_nonneg (fun x hx => by
  obtain ⟨c, hc, rfl⟩ := List.mem_map.1 hx
  have := h c hc; omega)
theorem cells_pos {h : THist} (v : Valid h) : ∀ c ∈ cells h, 0 < c.f1 := by
  intro c hc
  simp only [cells, List.mem_append, List.mem_map, List.mem_reverse] at hc
  rcases hc with (⟨b, hb, rfl⟩ | hc) | ⟨b, hb, rfl⟩
  · exact (v.neg.ok b hb).pos
  · unfold cellZ at hc; split at hc
    · simp at hc; subst hc; assumption
    · simp at hc
  · exact (v.pos.ok b hb).pos
theorem csum_map (l : List TBucket) (f : TBucket → Trank_Cell) (h : ∀ b, (f b).f1 = b.f1) : csum (l.map f) = cnt l := by
  simp [csum, cnt, Function.comp_def, h]
theorem cnt_reverse (l : List TBucket) : cnt l.reverse = cnt l := by
  unfold cnt; rw [List.map_reverse]; exact isum_perm (List.reverse_perm _)
theorem cells_sum {h : THist} (v : Valid h) (f : Fits h) : csum (cells h) = h.f4 := by
  rw [cells, csum_append, csum_append, csum_map _ _ (fun b => rfl), csum_map _ _ (fun b => rfl), cnt_reverse, v.count]
  have hz : csum (cellZ h.f3) = h.f3 := by
    unfold cellZ; split
    · simp [csum]
    · have := f.zero.1; simp [csum]; omega
  omega
theorem cells_len {h : THist} (v : Valid h) : (cells h).length ≤ 1025 := by
  have h1 := v.pos.len; have h2 := v.neg.len
  simp only [cells, List.length_append, List.length_map, List.length_reverse]
  have : (cellZ h.f3).length ≤ 1 := by unfold cellZ; split <;> simp
  omega
def r0 : Tpluvialref08_Cell := ⟨0, 0, 0, 0⟩
end Go.Proofs.Yteogljahemehkaa.PvGC
set_option linter.unusedVariables false
set_option linter.unusedSimpArgs false
namespace Go.Proofs.Yteogljahemehkaa.PvGC
open Go Go.Pv Go.Pv.GS
open Classical
def lo (h : THist) (c : Trank_Cell) : Int := if c.f0.f0 > 0 then 1048576 + (c.f0.f2 - 1) * stp h.f1 else if c.f0.f0 < 0 then -1048576 - c.f0.f2 * stp h.f1 else if h.f2 = -524288 then 0 else -1048576 - h.f2
def hi (h : THist) (c : Trank_Cell) : Int := if c.f0.f0 > 0 then 1048576 + c.f0.f2 * stp h.f1 else if c.f0.f0 < 0 then -1048576 - (c.f0.f2 - 1) * stp h.f1 else if h.f2 = -524288 then 0 else 1048576 + h.f2
inductive CellOk (h : THist) : Trank_Cell → Prop
  | neg (b : TBucket) (hb : b ∈ h.f7) (ok : BOk h.f1 h.f2 b) : CellOk h (cellN h.f1 b)
  | zero (hz : 0 < h.f3) : CellOk h ⟨⟨0, 0, 0⟩, h.f3⟩
  | pos (b : TBucket) (hb : b ∈ h.f6) (ok : BOk h.f1 h.f2 b) : CellOk h (cellP h.f1 b)
theorem cells_ok {h : THist} (v : Valid h) : ∀ c ∈ cells h, CellOk h c := by
  intro c hc
  simp only [cells, List.mem_append, List.mem_map, List.mem_reverse] at hc
  rcases hc with (⟨b, hb, rfl⟩ | hc) | ⟨b, hb, rfl⟩
  · exact .neg b hb (v.neg.ok b hb)
  · unfold cellZ at hc; split at hc
    · simp at hc; subst hc; exact .zero (by assumption)
    · simp at hc
  · exact .pos b hb (v.pos.ok b hb)
theorem ins_bounds {s i : Int} (hs : RightS s) (hi : InS s i) : -262144 - 4096 < (i - 1) * stp s ∧ (i - 1) * stp s < 262144 ∧ -262144 < i * stp s ∧ i * stp s ≤ 262144 ∧ (i - 1) * stp s < i * stp s := by
  have h1 := stp_pos s
  have h2 := stp_le hs
  have h3 := hi.1
  have h4 := hi.2
  have e : (i - 1) * stp s = i * stp s - stp s := by rw [Int.sub_mul, Int.one_mul]
  omega
theorem ends_eq {h : THist} (v : Valid h) {c : Trank_Cell} (hc : CellOk h c) : f_rank_ends.f h c = some (lo h c, hi h c) := by
  unfold f_rank_ends.f
  cases hc with
  | neg b hb ok =>
    have := ins_bounds v.schema ok.ins
    simp only [cellN, lo, hi]
    rw [if_neg (show ¬ decide ((-1 : Int) > 0) = true by decide), if_pos (show decide ((-1 : Int) < 0) = true by decide), units_in v.schema ok.ins, sb, low_T v.schema ok.ins, sb, wrap64 (by omega) (by omega), wrap64 (by omega) (by omega)]
    simp
  | zero hz =>
    simp only [lo, hi]
    rw [if_neg (show ¬ decide ((0 : Int) > 0) = true by decide), if_neg (show ¬ decide ((0 : Int) < 0) = true by decide)]
    have := v.zero
    by_cases h0 : h.f2 = -524288
    · rw [h0]; simp
    · rw [if_neg (show ¬ (h.f2 == -524288) = true by simpa using h0), wrap64 (by omega) (by omega), wrap64 (by omega) (by omega)]; simp [h0]
  | pos b hb ok =>
    have := ins_bounds v.schema ok.ins
    simp only [cellP, lo, hi]
    rw [if_pos (show decide ((1 : Int) > 0) = true by decide), units_in v.schema ok.ins, low_T v.schema ok.ins, sb, sb, wrap64 (by omega) (by omega), wrap64 (by omega) (by omega)]
    simp
def bsum (h : THist) (a : Int) : List Trank_Cell → Int
  | [] => 0
  | c :: l => (if hi h c ≤ a then c.f1 else 0) + bsum h a l
def msum (h : THist) (a : Int) : List Trank_Cell → Int
  | [] => 0
  | c :: l => (if hi h c ≤ a then 0 else if lo h c < a then c.f1 else 0) + msum h a l
theorem bsum_append (h : THist) (a : Int) (l m : List Trank_Cell) : bsum h a (l ++ m) = bsum h a l + bsum h a m := by
  induction l with
  | nil => simp [bsum]
  | cons c l ih => simp only [List.cons_append, bsum, ih]; omega
theorem msum_append (h : THist) (a : Int) (l m : List Trank_Cell) : msum h a (l ++ m) = msum h a l + msum h a m := by
  induction l with
  | nil => simp [msum]
  | cons c l ih => simp only [List.cons_append, msum, ih]; omega
theorem bmsum (h : THist) (a : Int) (l : List Trank_Cell) (hp : ∀ c ∈ l, 0 < c.f1) : 0 ≤ bsum h a l ∧ 0 ≤ msum h a l ∧ bsum h a l + msum h a l ≤ csum l := by
  induction l with
  | nil => simp [bsum, msum, csum]
  | cons c l ih =>
    have h1 := ih (fun d hd => hp d (by simp [hd]))
    have h2 := hp c (by simp)
    rw [csum_cons, bsum, msum]
    split
    · omega
    · split <;> omega
theorem below_l0 {h : THist} (v : Valid h) (f : Fits h) (a : Int) : ∀ (suf pre : List Trank_Cell) (i : Int), cells h = pre ++ suf → i = (pre.length : Int) →
    f_rank_Below.l0 h a (cells h) (bsum h a pre) (msum h a pre) i = some (bsum h a (cells h), msum h a (cells h)) := by
  have hl := cells_len v
  have hs := cells_sum v f
  have fc := f.count
  intro suf
  induction suf with
  | nil => intro pre i h1 hi; rw [f_rank_Below.l0, if_neg (by rw [h1]; simp [hi]), h1, List.append_nil]
  | cons x suf ih =>
    intro pre i h1 hi'
    have hlen : ((cells h).length : Int) = pre.length + (suf.length + 1) := by rw [h1]; simp
    have hx := cells_pos v x (by rw [h1]; simp)
    have hok := cells_ok v x (by rw [h1]; simp)
    have hb := bmsum h a pre (fun c hc => cells_pos v c (by rw [h1]; simp [hc]))
    have hsuf := csum_nonneg (l := suf) (fun c hc => cells_pos v c (by rw [h1]; simp [hc]))
    have hsum : csum (cells h) = csum pre + (x.f1 + csum suf) := by rw [h1, csum_append, csum_cons]
    have key := ih (pre ++ [x]) (i + 1) (by simp [h1]) (by simp; omega)
    rw [bsum_append, msum_append] at key
    simp only [bsum, msum, Int.add_zero] at key
    have fc2 := fc.2
    rw [f_rank_Below.l0, if_pos (by simp; omega), at_mid h1 hi', sb, ends_eq v hok, sb]
    try dsimp only
    rw [wrap64 (n := i + 1) (by omega) (by omega), wrapU (n := bsum h a pre + x.f1) (by omega) (by omega), wrapU (n := msum h a pre + x.f1) (by omega) (by omega)]
    by_cases c1 : hi h x ≤ a
    · rw [if_pos (by simpa using c1), sb]
      try dsimp only
      rw [if_pos c1, if_pos c1] at key
      rw [Int.add_zero] at key
      exact key
    · rw [if_neg (by simpa using c1)]
      rw [if_neg c1, if_neg c1] at key
      by_cases c2 : lo h x < a
      · rw [if_pos (by simpa using c2), sb, sb]
        try dsimp only
        rw [if_pos c2] at key
        rw [Int.add_zero] at key
        exact key
      · rw [if_neg (by simpa using c2), sb, sb]
        try dsimp only
        rw [if_neg c2] at key
        rw [Int.add_zero, Int.add_zero] at key
        exact key
def PlaceOk (p : Trank_Place) : Prop := (p.f0 = 0 ∧ p.f1 = 0) ∨ ((p.f0 = 1 ∨ p.f0 = -1) ∧ -262144 < p.f1 ∧ p.f1 ≤ 262144)
def spt (p : Trank_Place) : Int := if p.f0 > 0 then 1048576 + p.f1 else if p.f0 < 0 then -1048576 - p.f1 else 0
theorem place_cond (p : Trank_Place) : ((if (decide (p.f0 < (-1))) = true then (some true) else (if (decide (p.f0 > (1 : Int))) = true then (some true) else (if (p.f0 != (0 : Int)) = true then (if (decide (p.f1 ≤ (-262144))) = true then (some true) else (if (decide (p.f1 > (262144 : Int))) = true then (some true) else (if (p.f0 == (0 : Int)) = true then (some (p.f1 != (0 : Int))) else (some false)))) else (if (p.f0 == (0 : Int)) = true then (some (p.f1 != (0 : Int))) else (some false))))) : Option (Bool)) = some (decide (¬ PlaceOk p)) := by
  by_cases h1 : p.f0 < -1
  · rw [if_pos (by simpa using h1), decide_eq_true (by unfold PlaceOk; omega)]
  rw [if_neg (by simpa using h1)]
  by_cases h2 : p.f0 > 1
  · rw [if_pos (by simpa using h2), decide_eq_true (by unfold PlaceOk; omega)]
  rw [if_neg (by simpa using h2)]
  by_cases h3 : p.f0 = 0
  · rw [if_neg (by simp [h3]), if_pos (by simp [h3])]
    by_cases h4 : p.f1 = 0
    · rw [decide_eq_false (by unfold PlaceOk; omega)]; simp [h4]
    · rw [decide_eq_true (by unfold PlaceOk; omega)]; simp [h4]
  rw [if_pos (by simpa using h3)]
  by_cases h4 : p.f1 ≤ -262144
  · rw [if_pos (by simpa using h4), decide_eq_true (by unfold PlaceOk; omega)]
  rw [if_neg (by simpa using h4)]
  by_cases h5 : p.f1 > 262144
  · rw [if_pos (by simpa using h5), decide_eq_true (by unfold PlaceOk; omega)]
  rw [if_neg (by simpa using h5), if_neg (by simpa using h3), decide_eq_false (by unfold PlaceOk; omega)]
theorem spot_eq {p : Trank_Place} (hp : PlaceOk p) : f_rank_spot.f p = some (spt p) := by
  unfold f_rank_spot.f spt
  unfold PlaceOk at hp
  by_cases h1 : p.f0 > 0
  · rw [if_pos (by simpa using h1), if_pos h1, wrap64 (by omega) (by omega)]
  rw [if_neg (by simpa using h1), if_neg h1]
  by_cases h2 : p.f0 < 0
  · rw [if_pos (by simpa using h2), if_pos h2, wrap64 (by omega) (by omega)]
  rw [if_neg (by simpa using h2), if_neg h2]
def p0 : Trank_Part := ⟨0, 0, 0⟩
theorem below_eq {h : THist} (v : Valid h) (f : Fits h) (p : Trank_Place) : f_rank_Below.f h p = some (if ¬ PlaceOk p then (p0, 1) else if h.f4 = 0 then (p0, 30) else (⟨bsum h (spt p) (cells h), msum h (spt p) (cells h), h.f4⟩, 0)) := by
  unfold f_rank_Below.f
  rw [place_cond, sb]
  by_cases hp : PlaceOk p
  case neg => rw [if_pos (by simpa using hp), if_pos hp]; rfl
  rw [if_neg (by simpa using hp), if_neg (not_not_intro hp)]
  by_cases h0 : h.f4 = 0
  · rw [if_pos (by simpa using h0), if_pos h0]; rfl
  rw [if_neg (by simpa using h0), if_neg h0]
  have lp := v.pos.len; have ln := v.neg.len
  rw [spot_eq hp, sb, order_eq h (by omega) (by omega), sb, show f_rank_Below.l0 h (spt p) (cells h) 0 0 0 = _ from below_l0 v f (spt p) (cells h) [] 0 rfl rfl, sb]
end Go.Proofs.Yteogljahemehkaa.PvGC
set_option linter.unusedVariables false
set_option linter.unusedSimpArgs false
namespace Go.Proofs.Yteogljahemehkaa.PvGC
open Go Go.Pv Go.Pv.GS
open Classical
def Sm (s u : Int) : Prop := (s = -1 ∨ s = 0 ∨ s = 1) ∧ -1000000 < u ∧ u < 1000000
theorem ref_above {a b c d : Int} (h1 : Sm a b) (h2 : Sm c d) : f_pluvialref08_above.f a b c d = some (decide (spt ⟨a, b⟩ > spt ⟨c, d⟩)) := by
  unfold f_pluvialref08_above.f
  obtain ⟨h1, h3, h4⟩ := h1
  obtain ⟨h2, h5, h6⟩ := h2
  rcases h1 with rfl | rfl | rfl <;> rcases h2 with rfl | rfl | rfl <;> simp [spt] <;> omega
theorem ref_ends {h : THist} (v : Valid h) {c : Trank_Cell} (hc : CellOk h c) : ∃ ls lu hs hu, f_pluvialref08_ends.f h (rc c) = some (ls, lu, hs, hu) ∧ Sm ls lu ∧ Sm hs hu ∧ spt ⟨ls, lu⟩ = lo h c ∧ spt ⟨hs, hu⟩ = hi h c := by
  unfold f_pluvialref08_ends.f
  cases hc with
  | neg b hb ok =>
    have := ins_bounds v.schema ok.ins
    have hs := inS_small ok.ins
    simp only [cellN]
    rw [if_neg (by decide), wrap64 (by omega) (by omega), ref_units v.schema (by omega), sb, ref_units v.schema (by omega), sb, if_neg (by simp)]
    refine ⟨_, _, _, _, rfl, ⟨by omega, by omega, by omega⟩, ⟨by omega, by omega, by omega⟩, ?_, ?_⟩ <;> simp [spt, lo, hi]
  | zero hz =>
    have := v.zero
    rw [if_pos (by simp)]
    by_cases h0 : h.f2 = -524288
    · rw [if_pos (by simpa using h0)]
      refine ⟨_, _, _, _, rfl, ⟨by omega, by omega, by omega⟩, ⟨by omega, by omega, by omega⟩, ?_, ?_⟩ <;> simp [spt, lo, hi, h0]
    · rw [if_neg (by simpa using h0)]
      refine ⟨_, _, _, _, rfl, ⟨by omega, by omega, by omega⟩, ⟨by omega, by omega, by omega⟩, ?_, ?_⟩ <;> simp [spt, lo, hi, h0]
  | pos b hb ok =>
    have := ins_bounds v.schema ok.ins
    have hs := inS_small ok.ins
    simp only [cellP]
    rw [if_neg (by decide), wrap64 (by omega) (by omega), ref_units v.schema (by omega), sb, ref_units v.schema (by omega), sb, if_pos (by simp)]
    refine ⟨_, _, _, _, rfl, ⟨by omega, by omega, by omega⟩, ⟨by omega, by omega, by omega⟩, ?_, ?_⟩ <;> simp [spt, lo, hi]
theorem ref_below_l0 {h : THist} (v : Valid h) (f : Fits h) (ps pu : Int) (hp : Sm ps pu) : ∀ (suf pre : List Trank_Cell) (i : Int), cells h = pre ++ suf → i = (pre.length : Int) →
    f_pluvialref08_Below.l0 h ps pu ((cells h).map rc) (bsum h (spt ⟨ps, pu⟩) pre) (msum h (spt ⟨ps, pu⟩) pre) i = some (bsum h (spt ⟨ps, pu⟩) (cells h), msum h (spt ⟨ps, pu⟩) (cells h)) := by
  have hl := cells_len v
  have hs := cells_sum v f
  have fc2 := f.count.2
  intro suf
  induction suf with
  | nil => intro pre i h1 hi; rw [f_pluvialref08_Below.l0, if_neg (by rw [h1]; simp [hi]), h1, List.append_nil]
  | cons x suf ih =>
    intro pre i h1 hi'
    have hlen : ((cells h).length : Int) = pre.length + (suf.length + 1) := by rw [h1]; simp
    have hx := cells_pos v x (by rw [h1]; simp)
    have hok := cells_ok v x (by rw [h1]; simp)
    have hb := bmsum h (spt ⟨ps, pu⟩) pre (fun c hc => cells_pos v c (by rw [h1]; simp [hc]))
    have hsuf := csum_nonneg (l := suf) (fun c hc => cells_pos v c (by rw [h1]; simp [hc]))
    have hsum : csum (cells h) = csum pre + (x.f1 + csum suf) := by rw [h1, csum_append, csum_cons]
    have key := ih (pre ++ [x]) (i + 1) (by simp [h1]) (by simp; omega)
    rw [bsum_append, msum_append] at key
    simp only [bsum, msum, Int.add_zero] at key
    have h2 : (cells h).map rc = pre.map rc ++ rc x :: suf.map rc := by rw [h1]; simp
    obtain ⟨ls, lu, hs', hu, ee, s1, s2, q1, q2⟩ := ref_ends v hok
    rw [f_pluvialref08_Below.l0, if_pos (by simp; omega), at_mid h2 (by simp [hi']), sb, ee, sb]
    try dsimp only
    rw [ref_above s2 hp, sb, ref_above hp s1, q1, q2]
    rw [wrap64 (n := i + 1) (by omega) (by omega), wrapU (n := bsum h (spt ⟨ps, pu⟩) pre + x.f1) (by omega) (by omega), wrapU (n := msum h (spt ⟨ps, pu⟩) pre + x.f1) (by omega) (by omega)]
    by_cases c1 : hi h x ≤ spt ⟨ps, pu⟩
    · rw [if_pos (by simp; omega), sb]
      try dsimp only
      rw [if_pos c1, if_pos c1] at key
      rw [Int.add_zero] at key
      exact key
    · rw [if_neg (by simp; omega), sb]
      rw [if_neg c1, if_neg c1] at key
      by_cases c2 : lo h x < spt ⟨ps, pu⟩
      · rw [if_pos (by simp; omega), sb, sb]
        try dsimp only
        rw [if_pos c2] at key
        rw [Int.add_zero] at key
        exact key
      · rw [if_neg (by simp; omega), sb, sb]
        try dsimp only
        rw [if_neg c2] at key
        rw [Int.add_zero, Int.add_zero] at key
        exact key
theorem ref_place_cond (s u : Int) : ((if (s == (0 : Int)) = true then (if (u != (0 : Int)) = true then (some true) else (if (decide (s < (-1))) = true then (some true) else (if (decide (s > (1 : Int))) = true then (some true) else (if (s != (0 : Int)) = true then (if (decide (u ≤ (-262144))) = true then (some true) else (some (decide (u > (262144 : Int))))) else (some false))))) else (if (decide (s < (-1))) = true then (some true) else (if (decide (s > (1 : Int))) = true then (some true) else (if (s != (0 : Int)) = true then (if (decide (u ≤ (-262144))) = true then (some true) else (some (decide (u > (262144 : Int))))) else (some false))))) : Option (Bool)) = some (decide (¬ PlaceOk ⟨s, u⟩)) := by
  by_cases h3 : s = 0
  · subst h3
    by_cases h4 : u = 0
    · subst h4; rw [decide_eq_false (p := ¬ PlaceOk ⟨0, 0⟩) (by unfold PlaceOk; simp)]; simp
    · rw [decide_eq_true (p := ¬ PlaceOk ⟨0, u⟩) (by unfold PlaceOk; simp; omega)]; simp [h4]
  rw [if_neg (by simpa using h3)]
  by_cases h1 : s < -1
  · rw [if_pos (by simpa using h1), decide_eq_true (by unfold PlaceOk; simp; omega)]
  rw [if_neg (by simpa using h1)]
  by_cases h2 : s > 1
  · rw [if_pos (by simpa using h2), decide_eq_true (by unfold PlaceOk; simp; omega)]
  rw [if_neg (by simpa using h2), if_pos (by simpa using h3)]
  by_cases h4 : u ≤ -262144
  · rw [if_pos (by simpa using h4), decide_eq_true (by unfold PlaceOk; simp; omega)]
  rw [if_neg (by simpa using h4)]
  congr 1; rw [decide_eq_decide]; unfold PlaceOk; simp; omega
theorem ref_below_eq {h : THist} (v : Valid h) (f : Fits h) (p : Trank_Place) : f_pluvialref08_Below.f h p.f0 p.f1 = some (if ¬ PlaceOk p then (0, 0, 0, 1) else if h.f4 = 0 then (0, 0, 0, 30) else (bsum h (spt p) (cells h), msum h (spt p) (cells h), h.f4, 0)) := by
  unfold f_pluvialref08_Below.f
  rw [ref_place_cond, sb]
  by_cases hp : PlaceOk p
  case neg => rw [if_pos (decide_eq_true hp), if_pos hp]
  rw [if_neg (by simpa using hp), if_neg (not_not_intro hp)]
  by_cases h0 : h.f4 = 0
  · rw [if_pos (by simpa using h0), if_pos h0]
  rw [if_neg (by simpa using h0), if_neg h0]
  have lp := v.pos.len; have ln := v.neg.len
  have sm : Sm p.f0 p.f1 := by unfold PlaceOk at hp; unfold Sm; omega
  rw [ref_order_eq h (by omega) (by omega), sb, show f_pluvialref08_Below.l0 h p.f0 p.f1 ((cells h).map rc) 0 0 0 = _ from ref_below_l0 v f p.f0 p.f1 sm (cells h) [] 0 rfl rfl, sb]
theorem rankBelow_R (h : THist) (p : Trank_Place) (hR : RHist h) (hp : Rrank_Place p) : f_pluviallaw08_RankBelow.f h p = some true := by
  unfold f_pluviallaw08_RankBelow.f
  rw [right8 h hR, awake08, sb, sb]
  by_cases hr : Right8 h
  case neg => rw [decide_eq_false hr]; rfl
  rw [decide_eq_true hr, if_neg (by simp)]
  have v := hr.valid
  have f := fits_of hR
  rw [below_eq v f, ref_below_eq v f, sb, sb, sb, if_pos rfl]
  by_cases hp : PlaceOk p
  case neg => rw [if_pos hp, if_pos hp]; rfl
  rw [if_neg (not_not_intro hp), if_neg (not_not_intro hp)]
  by_cases h0 : h.f4 = 0
  · rw [if_pos h0, if_pos h0]; rfl
  rw [if_neg h0, if_neg h0]
  simp
end Go.Proofs.Yteogljahemehkaa.PvGC
