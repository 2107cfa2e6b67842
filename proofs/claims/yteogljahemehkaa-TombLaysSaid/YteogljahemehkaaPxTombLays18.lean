import Derived.Test.YteogljahemehkaaPxTombLays17
set_option linter.unusedVariables false
set_option linter.unusedSimpArgs false
namespace Go.Proofs.Yteogljahemehkaa.PvGC1
open Go Go.Pv Go.Pv.GS
theorem snoc_at' {α : Type} (l : List α) (x : α) (h : l.length < 1000000000000) : at? (l ++ [x]) (IntKind.i64.wrap (((l ++ [x]).length : Int) - 1)) = some x := by
  rw [List.length_append, List.length_singleton, wrap64 (by omega) (by omega)]
  exact at_mid (pre := l) (suf := []) rfl (by omega)
theorem snoc_set' {α : Type} (l : List α) (x y : α) (h : l.length < 1000000000000) : (l ++ [x]).set (Int.toNat (IntKind.i64.wrap (((l ++ [x]).length : Int) - 1))) y = l ++ [y] := by
  rw [List.length_append, List.length_singleton, wrap64 (by omega) (by omega), show (((l.length + 1 : Nat) : Int) - 1).toNat = l.length by omega]
  simp
theorem wbit {b : List Int} {f : Nat} {s : List Bool} (h : Laid b f s) (hl : s.length < 1000000000) (x : Bool) : ∃ (b' : List Int) (f' : Nat), f_bits_Writer_Bit_ba5.f b (f : Int) x = some (b', (f' : Int)) ∧ Laid b' f' (s ++ [x]) := by
  have hlen := h.len
  have hlt := h.lt
  obtain ⟨b0, y, f0, e, h0⟩ : ∃ (b0 : List Int) (y : Int) (f0 : Nat), (((if ((f : Int) == (0 : Int)) = true then ((chk ((b.length + [0].length) * 1 ≤ 140737488355328)) >>= fun _ => some (b ++ [0], 8)) else (some (b, (f : Int)))) : Option ((List Int) × Int)) = some (b0 ++ [y], ((f0 + 1 : Nat) : Int))) ∧ Laid (b0 ++ [y]) f0 (s ++ [false]) := by
    by_cases q : f = 0
    · subst q
      rw [if_pos (by simp), chkB (by simp; omega)]
      exact ⟨b, 0, 7, rfl, h.new0⟩
    · rw [if_neg (by simpa using q)]
      obtain ⟨f0, rfl⟩ : ∃ f0, f = f0 + 1 := ⟨f - 1, by omega⟩
      have h' := h.old0
      rcases List.eq_nil_or_concat b with rfl | ⟨b0, y, rfl⟩
      · simp at hlen
      · rw [List.concat_eq_append] at *
        exact ⟨b0, y, f0, rfl, h'⟩
  have hl0 : b0.length < 1000000000 := by have := h0.lt; have := h0.len; simp at this; omega
  have hf0 := h0.lt
  unfold f_bits_Writer_Bit_ba5.f
  rw [e, sb]
  dsimp only
  have w : IntKind.u64.wrap (((f0 + 1 : Nat) : Int) - 1) = (f0 : Int) := by rw [wrapU (by omega) (by omega)]; omega
  rw [w]
  cases x with
  | false => rw [if_neg (by simp), sb]; exact ⟨_, _, rfl, h0⟩
  | true =>
    rw [if_pos rfl, snoc_at' _ _ (by omega), sb, chkB (by omega), sb, snoc_set' _ _ _ (by omega)]
    refine ⟨_, _, rfl, ?_⟩
    have := h0.set1
    rw [orBit] at this
    exact this
theorem wput_l0 (n : Int) (hn0 : 0 ≤ n) (hn : n < 18446744073709551616) : ∀ (k : Nat) (b : List Int) (f : Nat) (s : List Bool), k ≤ 64 → s.length + k < 1000000000 → Laid b f s →
    ∃ (b' : List Int) (f' : Nat), f_bits_Writer_Put_ba5.l0 n b (f : Int) ((k : Int) - 1) = some (b', (f' : Int)) ∧ Laid b' f' (s ++ nb n.toNat k) := by
  intro k
  induction k with
  | zero =>
    intro b f s hk hl h
    rw [f_bits_Writer_Put_ba5.l0, if_neg (by simp)]
    exact ⟨b, f, rfl, by simpa [nb] using h⟩
  | succ k ih =>
    intro b f s hk hl h
    rw [show ((k + 1 : Nat) : Int) - 1 = (k : Int) by omega]
    rw [f_bits_Writer_Put_ba5.l0, if_pos (by simp), wrapU (n := (k : Int)) (by omega) (by omega), chkB (by omega), Int.toNat_natCast, bit_and hn0 hn k (by omega), wrap64 (n := (k : Int) - 1) (by omega) (by omega)]
    obtain ⟨b1, f1, e1, h1⟩ := wbit h (by omega) (n.toNat.testBit k)
    rw [e1, sb]
    obtain ⟨b2, f2, e2, h2⟩ := ih b1 f1 _ (by omega) (by simp; omega) h1
    exact ⟨b2, f2, e2, by rw [nb]; simpa using h2⟩
theorem wput {b : List Int} {f : Nat} {s : List Bool} (h : Laid b f s) (hl : s.length < 900000000) {n : Int} (hn0 : 0 ≤ n) (hn : n < 18446744073709551616) {k : Nat} (hk : k ≤ 64) :
    ∃ (b' : List Int) (f' : Nat), f_bits_Writer_Put_ba5.f b (f : Int) n (k : Int) = some (b', (f' : Int)) ∧ Laid b' f' (s ++ nb n.toNat k) := by
  unfold f_bits_Writer_Put_ba5.f
  have e : (if (if (64 : Int) < (k : Int) then (64 : Int) else (k : Int)) > (0 : Int) then (if (64 : Int) < (k : Int) then (64 : Int) else (k : Int)) else (0 : Int)) = (k : Int) := by
    by_cases q : (64 : Int) < (k : Int)
    · omega
    · rw [if_neg q]; by_cases q2 : (k : Int) > 0
      · rw [if_pos q2]
      · rw [if_neg q2]; omega
  rw [e, wrap64 (by omega) (by omega)]
  obtain ⟨b', f', e, h⟩ := wput_l0 n hn0 hn k b f s hk (by omega) h
  rw [e, sb]
  exact ⟨b', f', rfl, h⟩
def blen : Nat → Nat
  | 0 => 0
  | n + 1 => blen ((n + 1) / 2) + 1
decreasing_by omega
theorem blen_succ {n : Nat} (h : 0 < n) : blen n = blen (n / 2) + 1 := by
  obtain ⟨m, rfl⟩ : ∃ m, n = m + 1 := ⟨n - 1, by omega⟩
  rw [blen]
theorem blen_le : ∀ {k n : Nat}, n < 2 ^ k ↔ blen n ≤ k
  | 0, n => by
    rcases Nat.eq_zero_or_pos n with rfl | h
    · simp [blen]
    · rw [blen_succ h]; simp; omega
  | k + 1, n => by
    rcases Nat.eq_zero_or_pos n with rfl | h
    · simp [blen, Nat.pow_pos]
    · rw [blen_succ h, Nat.pow_succ, Nat.add_le_add_iff_right, ← blen_le (k := k)]
      omega
theorem long_l0 : ∀ (k n : Nat) (a : Int), n < 2 ^ k → 0 ≤ a → a + k ≤ 1000 → f_bits_long.l0 (n : Int) a = some (a + blen n) := by
  intro k
  induction k with
  | zero => intro n a h _ _; rw [show n = 0 by simpa using h, f_bits_long.l0, if_neg (by simp)]; simp [blen]
  | succ k ih =>
    intro n a h h0 h1
    rcases Nat.eq_zero_or_pos n with rfl | hn
    · rw [f_bits_long.l0, if_neg (by simp)]; simp [blen]
    · rw [f_bits_long.l0, if_pos (by simp; omega), Int.fdiv_eq_ediv_of_nonneg _ (by omega), show (n : Int) / 2 = ((n / 2 : Nat) : Int) by omega, wrap64 (by omega) (by omega)]
      rw [ih (n / 2) (a + 1) (by rw [Nat.pow_succ] at h; omega) (by omega) (by omega), blen_succ hn]; congr 1; omega
theorem long_eq {n : Nat} (h : n < 18446744073709551616) : f_bits_long.f (n : Int) = some (blen n : Int) := by
  unfold f_bits_long.f
  rw [long_l0 64 n 0 (by simpa using h) (by omega) (by omega), sb]; simp
theorem blen64 {n : Nat} (h : n < 18446744073709551616) : blen n ≤ 64 := blen_le.1 (by simpa using h)
def cls (k : Nat) : Nat := if k ≤ 0 then 0 else if k ≤ 3 then 1 else if k ≤ 7 then 2 else if k ≤ 12 then 3 else if k ≤ 20 then 4 else if k ≤ 32 then 5 else 6
def wid : Nat → Nat
  | 0 => 0 | 1 => 3 | 2 => 7 | 3 => 12 | 4 => 20 | 5 => 32 | _ => 64
abbrev cl : List Int := [0, 3, 7, 12, 20, 32, 64]
theorem cl_at : ∀ i : Fin 7, cl[i.1]? = some ((wid i.1 : Nat) : Int) := by decide
theorem cl_get {i : Nat} (h : i < 7) : cl[i]? = some ((wid i : Nat) : Int) := cl_at ⟨i, h⟩
theorem cls_lt (k : Nat) : cls k < 7 := by unfold cls; repeat' split
                                           all_goals omega
theorem wid_le (i : Nat) : wid i ≤ 64 := by unfold wid; split <;> omega
theorem le_wid {k : Nat} (h : k ≤ 64) : k ≤ wid (cls k) := by
  unfold cls; repeat' split
  all_goals simp only [wid]; omega
theorem wid_lt {k i : Nat} (h : i < cls k) : wid i < k := by
  unfold cls at h
  have : i < 6 := by have := cls_lt k; unfold cls at this; omega
  rcases (show i = 0 ∨ i = 1 ∨ i = 2 ∨ i = 3 ∨ i = 4 ∨ i = 5 by omega) with rfl | rfl | rfl | rfl | rfl | rfl <;> simp only [wid] <;> (revert h; repeat' split) <;> omega
theorem cls_of {k i : Nat} (h1 : k ≤ wid i) (h2 : ∀ j, j < i → wid j < k) (hi : i < 7) : cls k = i := by
  rcases Nat.lt_trichotomy (cls k) i with h | h | h
  · have := h2 _ h
    have h3 : k ≤ 64 := by have := wid_le i; omega
    have := le_wid h3; omega
  · exact h
  · have := wid_lt h; omega
theorem less_int (a b : Int) : f_cmp_Less_int.f a b = some (decide (a < b)) := by
  unfold f_cmp_Less_int.f f_cmp_isNaN_int.f
  simp [sb]
theorem binI_l0 (t : Nat) (ht : t ≤ 64) : ∀ (n i j : Nat), j - i ≤ n → i ≤ cls t → cls t ≤ j → j ≤ 7 → f_slices_BinarySearch_int.l0 cl (t : Int) (i : Int) (j : Int) = some ((cls t : Nat) : Int) := by
  intro n
  induction n with
  | zero =>
    intro i j h1 h2 h3 h4
    rw [f_slices_BinarySearch_int.l0, if_neg (by simp; omega)]
    congr 2; omega
  | succ n ih =>
    intro i j h1 h2 h3 h4
    by_cases hij : i < j
    case neg => rw [f_slices_BinarySearch_int.l0, if_neg (by simp; omega)]; congr 2; omega
    rw [f_slices_BinarySearch_int.l0, if_pos (by simp; omega), half_eq (by omega), at_nat rfl (cl_get (by omega)), sb, less_int, sb]
    by_cases hlt : wid ((i + j) / 2) < t
    · rw [if_pos (by simp; omega), sb, wrap64 (by omega) (by omega)]
      refine ih ((i + j) / 2 + 1) j (by omega) ?_ h3 h4
      rcases Nat.lt_or_ge ((i + j) / 2) (cls t) with h | h
      · exact h
      · have := le_wid ht
        have mono : wid (cls t) ≤ wid ((i + j) / 2) := by
          have a := cls_lt t
          have hd : (i + j) / 2 < 7 := by omega
          generalize cls t = c at *
          generalize (i + j) / 2 = d at *
          rcases (show c = 0 ∨ c = 1 ∨ c = 2 ∨ c = 3 ∨ c = 4 ∨ c = 5 ∨ c = 6 by omega) with rfl | rfl | rfl | rfl | rfl | rfl | rfl <;>
          rcases (show d = 0 ∨ d = 1 ∨ d = 2 ∨ d = 3 ∨ d = 4 ∨ d = 5 ∨ d = 6 by omega) with rfl | rfl | rfl | rfl | rfl | rfl | rfl <;> first | omega | (simp only [wid]; omega)
        omega
    · rw [if_neg (by simp; omega), sb]
      refine ih i ((i + j) / 2) (by omega) h2 ?_ (by omega)
      rcases Nat.lt_or_ge ((i + j) / 2) (cls t) with h | h
      · exact absurd (wid_lt h) hlt
      · exact h
theorem binI (t : Nat) (ht : t ≤ 64) : ∃ b, f_slices_BinarySearch_int.f cl (t : Int) = some (((cls t : Nat) : Int), b) := by
  unfold f_slices_BinarySearch_int.f
  have e := binI_l0 t ht 7 0 7 (by omega) (by omega) (by have := cls_lt t; omega) (by omega)
  rw [show ((cl.length : Nat) : Int) = ((7 : Nat) : Int) from rfl, show (0 : Int) = ((0 : Nat) : Int) from rfl, e, sb, if_pos (by have := cls_lt t; simp; omega), at_nat rfl (cl_get (cls_lt t)), sb]
  split
  · exact ⟨_, rfl⟩
  · unfold f_slices_isNaN_int.f
    simp only [sb, bne_self_eq_false]
    exact ⟨_, rfl⟩
def cnt2 (n : Nat) : List Bool := List.replicate (cls (blen n)) true ++ ((if cls (blen n) < 6 then [false] else []) ++ nb n (wid (cls (blen n))))
theorem cnt2_len (n : Nat) : (cnt2 n).length ≤ 71 := by
  have := cls_lt (blen n)
  have := wid_le (cls (blen n))
  simp only [cnt2, List.length_append, List.length_replicate, nb_len]
  split <;> simp <;> omega
theorem wcount_l0 (n : Int) (c : List Int) (t : Int × Bool) (k : Nat) (ht : t.1 = (k : Int)) (hk : k < 100) : ∀ (m : Nat) (b : List Int) (f : Nat) (s : List Bool) (i : Int), i = ((k - m : Nat) : Int) → m ≤ k → s.length + m < 1000000000 → Laid b f s →
    ∃ (b' : List Int) (f' : Nat), f_bits_Writer_Count_ba5.l0 n c t b (f : Int) i = some (b', (f' : Int)) ∧ Laid b' f' (s ++ List.replicate m true) := by
  intro m
  induction m with
  | zero => intro b f s i hi hm hl h; rw [f_bits_Writer_Count_ba5.l0, if_neg (by simp; omega)]; exact ⟨b, f, rfl, by simpa using h⟩
  | succ m ih =>
    intro b f s i hi hm hl h
    rw [f_bits_Writer_Count_ba5.l0, if_pos (by simp; omega), wrap64 (by omega) (by omega)]
    obtain ⟨b1, f1, e1, h1⟩ := wbit h (by omega) true
    rw [e1, sb]
    obtain ⟨b2, f2, e2, h2⟩ := ih b1 f1 _ (i + 1) (by omega) (by omega) (by simp; omega) h1
    exact ⟨b2, f2, e2, by rw [List.replicate_succ]; simpa using h2⟩
theorem wcount {b : List Int} {f : Nat} {s : List Bool} (h : Laid b f s) (hl : s.length < 800000000) {n : Int} (hn0 : 0 ≤ n) (hn : n < 18446744073709551616) :
    ∃ (b' : List Int) (f' : Nat), f_bits_Writer_Count_ba5.f b (f : Int) n = some (b', (f' : Int)) ∧ Laid b' f' (s ++ cnt2 n.toNat) := by
  unfold f_bits_Writer_Count_ba5.f f_bits_classes.f
  obtain ⟨m, rfl⟩ := Int.eq_ofNat_of_zero_le hn0
  have hb := blen64 (n := m) (by omega)
  have hc := cls_lt (blen m)
  obtain ⟨t, ht⟩ := binI (blen m) hb
  rw [sb, long_eq (by omega), sb, ht, sb]
  obtain ⟨b1, f1, e1, h1⟩ := wcount_l0 (m : Int) cl (((cls (blen m) : Nat) : Int), t) (cls (blen m)) rfl (by omega) (cls (blen m)) b f s 0 (by omega) (by omega) (by omega) h
  rw [e1, sb]
  dsimp only
  have w : IntKind.i64.wrap (((cl.length : Nat) : Int) - 1) = 6 := by decide
  rw [w]
  have hs : (s ++ List.replicate (cls (blen m)) true).length < 1000000000 := by simp; omega
  rw [Int.toNat_natCast, cnt2, ← List.append_assoc]
  by_cases h6 : cls (blen m) < 6
  · obtain ⟨b2, f2, e2, h2⟩ := wbit h1 hs false
    rw [if_pos (by simp; omega), e2, sb, sb, at_nat rfl (cl_get hc), sb]
    obtain ⟨b3, f3, e3, h3⟩ := wput h2 (by simp; omega) (n := (m : Int)) (by omega) hn (wid_le (cls (blen m)))
    dsimp only
    rw [e3, sb, if_pos h6]
    exact ⟨b3, f3, rfl, by simpa using h3⟩
  · rw [if_neg (by simp; omega), sb]
    dsimp only
    rw [at_nat rfl (cl_get hc), sb]
    obtain ⟨b3, f3, e3, h3⟩ := wput h1 (by simp; omega) (n := (m : Int)) (by omega) hn (wid_le (cls (blen m)))
    rw [e3, sb, if_neg h6]
    exact ⟨b3, f3, rfl, by simpa using h3⟩
end Go.Proofs.Yteogljahemehkaa.PvGC1
set_option linter.unusedVariables false
set_option linter.unusedSimpArgs false
namespace Go.Proofs.Yteogljahemehkaa.PvGC1
open Go Go.Pv Go.Pv.GS
theorem rput_l0 (k : Nat) (hk : k ≤ 64) : ∀ (m n : Nat) (a : List Bool) (i : Int), i = ((k - m : Nat) : Int) → m ≤ k → n < 18446744073709551616 → a.length + m < 1000000000 → f_pluvialref02_Put.l0 (k : Int) (n : Int) (strB a) i = some (strB (nb n m ++ a)) := by
  intro m
  induction m with
  | zero =>
    intro n a i hi hm hn hl
    rw [f_pluvialref02_Put.l0, if_neg (by simp; omega), sb, if_neg (by simp)]; rfl
  | succ m ih =>
    intro n a i hi hm hn hl
    have h1 : Int.tmod (n : Int) 2 = ((n % 2 : Nat) : Int) := by rw [Int.tmod_eq_emod_of_nonneg (by omega)]; omega
    have h2 : Int.tdiv (n : Int) 2 = ((n / 2 : Nat) : Int) := by rw [Int.tdiv_eq_ediv_of_nonneg (by omega)]; omega
    rw [f_pluvialref02_Put.l0, if_pos (by simp; omega), sb, if_pos (by simp; omega), h1, h2, wrapU (by omega) (by omega), wrap64 (by omega) (by omega), nb_snoc]
    have e1 : (⟨#[49]⟩ : ByteArray) = strB [true] := rfl
    have e0 : (⟨#[48]⟩ : ByteArray) = strB [false] := rfl
    rcases Nat.mod_two_eq_zero_or_one n with h | h
    · rw [if_neg (by rw [h]; simp), e0, chkB (by rw [strB_size, strB_size]; simp; omega), sb, ← strB_append, ih (n / 2) _ (i + 1) (by omega) (by omega) (by omega) (by simp; omega)]
      simp [h]
    · rw [if_pos (by rw [h]; simp), e1, chkB (by rw [strB_size, strB_size]; simp; omega), sb, ← strB_append, ih (n / 2) _ (i + 1) (by omega) (by omega) (by omega) (by simp; omega)]
      simp [h]
theorem rput {n k : Nat} (hk : k ≤ 64) (hn : n < 18446744073709551616) : f_pluvialref02_Put.f (n : Int) (k : Int) = some (strB (nb n k)) := by
  unfold f_pluvialref02_Put.f
  rw [← strB_nil, rput_l0 k hk k n [] 0 (by omega) (by omega) hn (by simp; omega), sb, List.append_nil]
theorem rclass_l0 : ∀ (k n : Nat) (a : Int), n < 2 ^ k → 0 ≤ a → a + k ≤ 1000 → n < 18446744073709551616 → f_pluvialref02_class.l0 (n : Int) a = some (a + blen n) := by
  intro k
  induction k with
  | zero => intro n a h _ _ _; rw [show n = 0 by simpa using h, f_pluvialref02_class.l0, if_neg (by simp)]; simp [blen]
  | succ k ih =>
    intro n a h h0 h1 h2
    rcases Nat.eq_zero_or_pos n with rfl | hn
    · rw [f_pluvialref02_class.l0, if_neg (by simp)]; simp [blen]
    · rw [f_pluvialref02_class.l0, if_pos (by simp; omega), Int.tdiv_eq_ediv_of_nonneg (by omega), show (n : Int) / 2 = ((n / 2 : Nat) : Int) by omega, wrapU (by omega) (by omega), wrap64 (by omega) (by omega)]
      rw [ih (n / 2) (a + 1) (by rw [Nat.pow_succ] at h; omega) (by omega) (by omega) (by omega), blen_succ hn]; congr 1; omega
theorem rclass_l1 {t : Nat} (ht : t ≤ 64) : ∀ (m i : Nat), i + m = cls t → f_pluvialref02_class.l1 (t : Int) (i : Int) = some ((cls t : Nat) : Int) := by
  intro m
  induction m with
  | zero =>
    intro i h
    have := le_wid ht
    have := cls_lt t
    rw [f_pluvialref02_class.l1, at_nat rfl (cl_get (by omega)), sb, if_neg (by rw [show i = cls t by omega]; simp; omega), show i = cls t by omega]
  | succ m ih =>
    intro i h
    have := cls_lt t
    have := wid_lt (k := t) (i := i) (by omega)
    rw [f_pluvialref02_class.l1, at_nat rfl (cl_get (by omega)), sb, if_pos (by simp; omega), wrap64 (by omega) (by omega)]
    exact ih (i + 1) (by omega)
theorem rclass {n : Nat} (hn : n < 18446744073709551616) : f_pluvialref02_class.f (n : Int) = some (((cls (blen n) : Nat) : Int), ((wid (cls (blen n)) : Nat) : Int)) := by
  unfold f_pluvialref02_class.f
  rw [rclass_l0 64 n 0 (by simpa using hn) (by omega) (by omega) hn, sb, Int.zero_add, show f_pluvialref02_class.l1 ((blen n : Nat) : Int) 0 = _ from rclass_l1 (blen64 hn) (cls (blen n)) 0 (by omega), sb, at_nat rfl (cl_get (cls_lt _)), sb]
theorem rcount_l0 (n : Int) (t : Int × Int) (k : Nat) (ht : t.1 = (k : Int)) (hk : k < 100) : ∀ (m : Nat) (a : List Bool) (i : Int), i = ((k - m : Nat) : Int) → m ≤ k → a.length + m < 1000 → f_pluvialref02_Count.l0 n t (strB a) i = some (strB (a ++ List.replicate m true)) := by
  intro m
  induction m with
  | zero => intro a i hi hm hl; rw [f_pluvialref02_Count.l0, if_neg (by simp; omega)]; simp
  | succ m ih =>
    intro a i hi hm hl
    have e1 : (⟨#[49]⟩ : ByteArray) = strB [true] := rfl
    rw [f_pluvialref02_Count.l0, if_pos (by simp; omega), e1, chkB (by rw [strB_size, strB_size]; simp; omega), wrap64 (by omega) (by omega), ← strB_append, ih _ (i + 1) (by omega) (by omega) (by simp; omega), List.replicate_succ]
    simp
theorem rcount {n : Nat} (hn : n < 18446744073709551616) : f_pluvialref02_Count.f (n : Int) = some (strB (cnt2 n)) := by
  have hc := cls_lt (blen n)
  have hw := wid_le (cls (blen n))
  have e0 : (⟨#[48]⟩ : ByteArray) = strB [false] := rfl
  unfold f_pluvialref02_Count.f
  rw [rclass hn, sb, ← strB_nil, rcount_l0 _ (((cls (blen n) : Nat) : Int), ((wid (cls (blen n)) : Nat) : Int)) (cls (blen n)) rfl (by omega) (cls (blen n)) [] 0 (by omega) (by omega) (by simp; omega), sb, List.nil_append, cnt2]
  dsimp only
  rw [e0]
  by_cases h6 : cls (blen n) < 6
  · rw [if_pos (by simp; omega), chkB (by rw [strB_size, strB_size]; simp; omega), sb, rput hw hn, sb, ← strB_append, chkB (by rw [strB_size, strB_size, nb_len]; simp; omega), ← strB_append, if_pos h6]
    simp
  · rw [if_neg (by simp; omega), sb, rput hw hn, sb, chkB (by rw [strB_size, strB_size, nb_len]; simp; omega), ← strB_append, if_neg h6]
    simp
theorem rbytes_l1 (a : ByteArray) (q : List Int) (i : Nat) (hi : i < 1000000000) : ∀ (m : Nat) (p k : Int), m ≤ i % 8 → k = ((i % 8 - m : Nat) : Int) → p = ((2 ^ (7 - i % 8 + m) : Nat) : Int) → f_pluvialref02_Bytes.l1 a (i : Int) q p k = some ((2 ^ (7 - i % 8) : Nat) : Int) := by
  intro m
  have ht : Int.tmod (i : Int) 8 = ((i % 8 : Nat) : Int) := by rw [Int.tmod_eq_emod_of_nonneg (by omega)]; omega
  induction m with
  | zero => intro p k hm hk hp; rw [f_pluvialref02_Bytes.l1, ht, if_neg (by simp; omega), hp]; rfl
  | succ m ih =>
    intro p k hm hk hp
    have hpow : 2 ^ (7 - i % 8 + (m + 1)) = 2 * 2 ^ (7 - i % 8 + m) := by rw [← Nat.add_assoc, Nat.pow_succ]; omega
    have hle : 2 ^ (7 - i % 8 + m) ≤ 2 ^ 7 := Nat.pow_le_pow_right (by omega) (by omega)
    have hd : Int.tdiv p 2 = ((2 ^ (7 - i % 8 + m) : Nat) : Int) := by rw [hp, hpow, Int.tdiv_eq_ediv_of_nonneg (by omega)]; omega
    rw [f_pluvialref02_Bytes.l1, ht, if_pos (by simp; omega), hd, wrap64 (by omega) (by omega), wrap64 (by omega) (by omega)]
    exact ih _ _ (by omega) (by omega) rfl
theorem addBit_eq {b : Int} (hb : Byte b) {f : Nat} (hf : f < 8) (h : (bits8 b).drop (7 - f) = List.replicate (f + 1) false) : IntKind.u8.wrap (b + IntKind.u8.wrap ((2 ^ f : Nat) : Int)) = orBit b f := by
  have := addBit_all ⟨b.toNat, by have := hb.1; have := hb.2; omega⟩ ⟨f, hf⟩
  simp only [Int.toNat_of_nonneg hb.1] at this
  rw [← this h]
  norm_cast
theorem laid_tail0 {b : List Int} {x : Int} {f : Nat} {s : List Bool} (h : Laid (b ++ [x]) f (s ++ [false])) : Byte x ∧ (bits8 x).drop (7 - f) = List.replicate (f + 1) false ∧ b.length = s.length / 8 := by
  have hl := h.len
  have hf := h.lt
  simp only [List.length_append, List.length_singleton] at hl
  have hb := h.bits
  rw [bitsOf_append, List.append_assoc, List.singleton_append, ← List.replicate_succ, show bitsOf [x] = bits8 x by simp [bitsOf]] at hb
  have hbl := bitsOf_len b
  have e1 : bits8 x = s.drop (8 * b.length) ++ List.replicate (f + 1) false := by
    have := congrArg (List.drop (8 * b.length)) hb
    rw [List.drop_append_of_le_length (by omega), List.drop_of_length_le (by omega), List.nil_append, List.drop_append_of_le_length (by omega)] at this
    exact this
  have hd : (s.drop (8 * b.length)).length = 7 - f := by rw [List.length_drop]; omega
  exact ⟨h.byte x (by simp), by rw [e1, ← hd, List.drop_left], by omega⟩
theorem rbytes_l0 (s : List Bool) (hl : s.length < 100000000) : ∀ (suf pre : List Bool) (b : List Int) (f : Nat) (i : Int), s = pre ++ suf → i = (pre.length : Int) → Laid b f pre →
    ∃ (b' : List Int) (f' : Nat), f_pluvialref02_Bytes.l0 (strB s) b i = some b' ∧ Laid b' f' s := by
  intro suf
  induction suf with
  | nil =>
    intro pre b f i h1 hi h
    rw [List.append_nil] at h1
    subst h1
    rw [f_pluvialref02_Bytes.l0, if_neg (by rw [strB_size]; simp [hi])]
    exact ⟨b, f, rfl, h⟩
  | cons x suf ih =>
    intro pre b f i h1 hi h
    have hlen : s.length = pre.length + (suf.length + 1) := by rw [h1]; simp
    have ht : Int.tmod i 8 = ((pre.length % 8 : Nat) : Int) := by rw [hi, Int.tmod_eq_emod_of_nonneg (by omega)]; omega
    have htd : Int.tdiv i 8 = ((pre.length / 8 : Nat) : Int) := by rw [hi, Int.tdiv_eq_ediv_of_nonneg (by omega)]; omega
    have hbl := h.len
    have hlt := h.lt
    have hx : s[pre.length]? = some x := by rw [h1]; simp
    obtain ⟨b0, y, f0, e, h0⟩ : ∃ (b0 : List Int) (y : Int) (f0 : Nat), ((if (Int.tmod i (8 : Int) == (0 : Int)) = true then ((chk ((b.length + [0].length) * 1 ≤ 140737488355328)) >>= fun _ => some (b ++ [0])) else (some b)) : Option (List Int)) = some (b0 ++ [y]) ∧ Laid (b0 ++ [y]) f0 (pre ++ [false]) := by
      by_cases q : f = 0
      · subst q
        rw [ht, if_pos (by simp; omega), chkB (by simp; omega)]
        exact ⟨b, 0, 7, rfl, h.new0⟩
      · rw [ht, if_neg (by simp; omega)]
        obtain ⟨f0, rfl⟩ : ∃ f0, f = f0 + 1 := ⟨f - 1, by omega⟩
        have h' := h.old0
        rcases List.eq_nil_or_concat b with rfl | ⟨b0, y, rfl⟩
        · simp at hbl
        · rw [List.concat_eq_append] at *
          exact ⟨b0, y, f0, rfl, h'⟩
    have hl0 := h0.len
    have hf0 := h0.lt
    simp only [List.length_append, List.length_singleton] at hl0
    obtain ⟨g1, g2, g3⟩ := laid_tail0 h0
    rw [f_pluvialref02_Bytes.l0, if_pos (by rw [strB_size]; simp; omega), e, sb, chkB (by rw [strB_size]; omega), hi, strB_bt hx, wrap64 (n := (pre.length : Int) + 1) (by omega) (by omega)]
    have e1 : s = (pre ++ [x]) ++ suf := by simp [h1]
    cases x with
    | false =>
      rw [if_neg (by simp), sb]
      exact ih (pre ++ [false]) _ f0 _ e1 (by simp) h0
    | true =>
      rw [hi] at htd
      rw [if_pos rfl, rbytes_l1 (strB s) _ pre.length (by omega) (pre.length % 8) 128 0 (by omega) (by omega) (by rw [show 7 - pre.length % 8 + pre.length % 8 = 7 by omega]; rfl), sb, htd, wrap64 (n := ((pre.length / 8 : Nat) : Int)) (by omega) (by omega),
        at_mid (pre := b0) (suf := []) (x := y) rfl (by omega), sb, sb, show 7 - pre.length % 8 = f0 by omega, addBit_eq g1 hf0 g2]
      have e2 : (b0 ++ [y]).set (Int.toNat ((pre.length / 8 : Nat) : Int)) (orBit y f0) = b0 ++ [orBit y f0] := by
        rw [Int.toNat_natCast, ← g3]; simp
      rw [e2]
      exact ih (pre ++ [true]) _ f0 _ e1 (by simp) h0.set1
theorem rbytes (s : List Bool) (hl : s.length < 100000000) : ∃ (b : List Int) (f : Nat), f_pluvialref02_Bytes.f (strB s) = some b ∧ Laid b f s := by
  unfold f_pluvialref02_Bytes.f
  obtain ⟨b, f, e, h⟩ := rbytes_l0 s hl s [] [] 0 0 rfl rfl Laid.nil
  rw [e, sb]; exact ⟨b, f, rfl, h⟩
theorem rtext_l0 (l : List Int) (hl : l.length < 10000000) (hb : ∀ x ∈ l, Byte x) : ∀ (suf pre : List Int) (i : Int), l = pre ++ suf → i = (pre.length : Int) → f_pluvialref02_Text.l0 l (strB (bitsOf pre)) i = some (strB (bitsOf l)) := by
  intro suf
  induction suf with
  | nil => intro pre i h1 hi; rw [f_pluvialref02_Text.l0, if_neg (by rw [h1]; simp [hi]), h1, List.append_nil]
  | cons x suf ih =>
    intro pre i h1 hi
    have hlen : l.length = pre.length + (suf.length + 1) := by rw [h1]; simp
    have hx := hb x (by rw [h1]; simp)
    obtain ⟨n, rfl⟩ := Int.eq_ofNat_of_zero_le hx.1
    have hn := hx.2
    have hpl := bitsOf_len pre
    rw [f_pluvialref02_Text.l0, if_pos (by simp; omega), at_mid h1 hi, sb, wrapU (by omega) (by omega), show (8 : Int) = ((8 : Nat) : Int) from rfl, rput (by omega) (by omega), sb, chkB (by rw [strB_size, strB_size, nb_len]; omega), wrap64 (by omega) (by omega), ← strB_append]
    have : bitsOf pre ++ nb n 8 = bitsOf (pre ++ [(n : Int)]) := by rw [bitsOf_append, show bitsOf [(n : Int)] = bits8 n by simp [bitsOf], bits8_nb]; simp
    rw [this]
    exact ih (pre ++ [(n : Int)]) (i + 1) (by simp [h1]) (by simp; omega)
theorem rtext (l : List Int) (hl : l.length < 10000000) (hb : ∀ x ∈ l, Byte x) : f_pluvialref02_Text.f l = some (strB (bitsOf l)) := by
  unfold f_pluvialref02_Text.f
  rw [← strB_nil, show ([] : List Bool) = bitsOf [] from rfl, rtext_l0 l hl hb l [] 0 rfl rfl, sb]
end Go.Proofs.Yteogljahemehkaa.PvGC1
set_option linter.unusedVariables false
set_option linter.unusedSimpArgs false
namespace Go.Proofs.Yteogljahemehkaa.PvGC1
open Go Go.Pv Go.Pv.GS
theorem bitsOf_get : ∀ (l : List Int) (q r : Nat), r < 8 → (bitsOf l)[8 * q + r]? = (l[q]?).bind fun x => (bits8 x)[r]?
  | [], q, r, h => by simp [bitsOf]
  | x :: l, 0, r, h => by
    rw [bitsOf_cons, List.getElem?_append_left (by rw [bits8_len]; omega)]; simp
  | x :: l, q + 1, r, h => by
    rw [bitsOf_cons, List.getElem?_append_right (by rw [bits8_len]; omega), bits8_len, show 8 * (q + 1) + r - 8 = 8 * q + r by omega, bitsOf_get l q r h]; simp
structure Src (b : List Int) : Prop where
  byte : ∀ x ∈ b, Byte x
  len : b.length < 100000000
variable {b : List Int}
theorem rbit_ok (hb : Src b) {a : Nat} {x : Bool} (h : (bitsOf b)[a]? = some x) : f_bits_Reader_Bit_b86.f b (a : Int) 0 = some (x, ((a + 1 : Nat) : Int), 0) := by
  have hl := hb.len
  have ha : a < 8 * b.length := by rw [← bitsOf_len]; exact (List.getElem?_eq_some_iff.1 h).1
  unfold f_bits_Reader_Bit_b86.f
  have htm : Int.tmod (a : Int) 8 = ((a % 8 : Nat) : Int) := by rw [Int.tmod_eq_emod_of_nonneg (by omega)]; omega
  have htd : Int.tdiv (a : Int) 8 = ((a / 8 : Nat) : Int) := by rw [Int.tdiv_eq_ediv_of_nonneg (by omega)]; omega
  have hq : a / 8 < b.length := by omega
  have hx := bitsOf_get b (a / 8) (a % 8) (by omega)
  rw [show 8 * (a / 8) + a % 8 = a by omega, h, List.getElem?_eq_getElem hq, Option.bind_some] at hx
  have hy := hb.byte _ (List.getElem_mem hq)
  have hg := getBit_eq hy (f := 7 - a % 8) (by omega)
  rw [show 7 - (7 - a % 8) = a % 8 by omega, ← hx] at hg
  have hg' := Option.some.inj hg
  rw [if_neg (by simp), wrap64 (by omega) (by omega), sb, if_neg (by simp; omega), htd, wrap64 (n := ((a / 8 : Nat) : Int)) (by omega) (by omega), at_nat rfl (List.getElem?_eq_getElem hq), sb, htm, wrapU (n := ((a % 8 : Nat) : Int)) (by omega) (by omega),
    wrapU (n := (7 : Int) - ((a % 8 : Nat) : Int)) (by omega) (by omega), chkB (by omega), show Int.toNat ((7 : Int) - ((a % 8 : Nat) : Int)) = 7 - a % 8 by omega, wrap64 (n := (a : Int) + 1) (by omega) (by omega)]
  rw [getBit] at hg'
  rw [hg']; rfl
theorem rbit_end (hb : Src b) {a : Nat} (h : 8 * b.length ≤ a) : f_bits_Reader_Bit_b86.f b (a : Int) 0 = some (false, (a : Int), 7) := by
  have hl := hb.len
  unfold f_bits_Reader_Bit_b86.f f_bits_Reader_fail_b86.f
  rw [if_neg (by simp), wrap64 (by omega) (by omega), sb, if_pos (by simp; omega), if_pos (by simp), sb, sb]
theorem rbit_bad {a e : Int} (h : e ≠ 0) : f_bits_Reader_Bit_b86.f b a e = some (false, a, e) := by
  unfold f_bits_Reader_Bit_b86.f f_bits_Reader_fail_b86.f
  rw [if_pos (by simpa using h), sb, if_pos rfl, if_neg (by simpa using h), sb, sb]
theorem rfail0 {a e : Int} : f_bits_Reader_fail_b86.f b a 0 e = some e := by unfold f_bits_Reader_fail_b86.f; rw [if_pos (by simp), sb]
theorem rfail1 {a x e : Int} (h : x ≠ 0) : f_bits_Reader_fail_b86.f b a x e = some x := by unfold f_bits_Reader_fail_b86.f; rw [if_neg (by simpa using h), sb]
theorem clamp {k : Nat} (hk : k ≤ 64) : (if (if (64 : Int) < (k : Int) then (64 : Int) else (k : Int)) > (0 : Int) then (if (64 : Int) < (k : Int) then (64 : Int) else (k : Int)) else (0 : Int)) = (k : Int) := by
  by_cases q : (64 : Int) < (k : Int)
  · omega
  · rw [if_neg q]; by_cases q2 : (k : Int) > 0
    · rw [if_pos q2]
    · rw [if_neg q2]; omega
theorem get_bad_l0 (k : Nat) (hk : k ≤ 64) {a e : Int} (he : e ≠ 0) : ∀ (m : Nat) (n i : Int), i = ((k - m : Nat) : Int) → m ≤ k → ∃ n', f_bits_Reader_Get_b86.l0 b (k : Int) a e n i = some (a, e, n') := by
  intro m
  induction m with
  | zero => intro n i hi hm; rw [f_bits_Reader_Get_b86.l0, clamp hk, if_neg (by simp; omega)]; exact ⟨n, rfl⟩
  | succ m ih =>
    intro n i hi hm
    rw [f_bits_Reader_Get_b86.l0, clamp hk, if_pos (by simp; omega), rbit_bad he, sb, if_neg (by simp), sb, wrap64 (by omega) (by omega)]
    exact ih _ _ (by omega) (by omega)
theorem get_bad {k : Nat} (hk : k ≤ 64) {a e : Int} (he : e ≠ 0) : f_bits_Reader_Get_b86.f b a e (k : Int) = some (0, a, e) := by
  unfold f_bits_Reader_Get_b86.f
  obtain ⟨n, h⟩ := get_bad_l0 (b := b) k hk he k 0 0 (by omega) (by omega) (a := a)
  rw [h, sb]
  dsimp only
  rw [if_pos (by simpa using he)]
theorem get_l0 (hb : Src b) (k : Nat) (hk : k ≤ 64) : ∀ (m : Nat) (s : List Bool) (a : Nat) (i : Int), i = ((k - m : Nat) : Int) → m ≤ k → s.length = k - m → a ≤ 8 * b.length →
    (a + m ≤ 8 * b.length ∧ f_bits_Reader_Get_b86.l0 b (k : Int) (a : Int) 0 ((val s : Nat) : Int) i = some (((a + m : Nat) : Int), 0, ((val (s ++ ((bitsOf b).drop a).take m) : Nat) : Int))) ∨
    (8 * b.length < a + m ∧ ∃ n', f_bits_Reader_Get_b86.l0 b (k : Int) (a : Int) 0 ((val s : Nat) : Int) i = some (((8 * b.length : Nat) : Int), 7, n')) := by
  intro m
  induction m with
  | zero =>
    intro s a i hi hm hs ha
    rw [f_bits_Reader_Get_b86.l0, clamp hk, if_neg (by simp; omega)]
    exact .inl ⟨by omega, by simp⟩
  | succ m ih =>
    intro s a i hi hm hs ha
    rw [f_bits_Reader_Get_b86.l0, clamp hk, if_pos (by simp; omega)]
    by_cases h : a < 8 * b.length
    · have hlt : a < (bitsOf b).length := by rw [bitsOf_len]; exact h
      rw [rbit_ok hb (List.getElem?_eq_getElem hlt), sb, wrap64 (by omega) (by omega)]
      have hv := val_lt s
      have hp : 2 ^ s.length ≤ 2 ^ 63 := Nat.pow_le_pow_right (by omega) (by omega)
      have e1 : ((if (bitsOf b)[a] = true then (some (IntKind.u64.wrap (((BitVec.toNat (BitVec.ofInt 64 (IntKind.u64.wrap (((val s : Nat) : Int) * 2)) ||| BitVec.ofInt 64 (1)) : Nat) : Int)))) else (some (IntKind.u64.wrap (((val s : Nat) : Int) * 2)))) : Option Int) = some ((val (s ++ [(bitsOf b)[a]]) : Nat) : Int) := by
        rw [val_snoc]
        cases (bitsOf b)[a] with
        | true => rw [if_pos rfl, or_one (by omega) (by omega)]; congr 1
        | false => rw [if_neg (by simp), wrapU (by omega) (by omega)]; congr 1; simp; omega
      dsimp only
      rw [e1, sb]
      have e2 : s ++ ((bitsOf b).drop a).take (m + 1) = (s ++ [(bitsOf b)[a]]) ++ ((bitsOf b).drop (a + 1)).take m := by
        rw [List.drop_eq_getElem_cons hlt, List.take_succ_cons]; simp
      rcases ih (s ++ [(bitsOf b)[a]]) (a + 1) (i + 1) (by omega) (by omega) (by simp; omega) (by omega) with ⟨h1, h2⟩ | ⟨h1, n', h2⟩
      · exact .inl ⟨by omega, by rw [h2, e2]; congr 2; omega⟩
      · exact .inr ⟨by omega, n', h2⟩
    · rw [rbit_end hb (by omega), sb, if_neg (by simp), sb, wrap64 (by omega) (by omega)]
      obtain ⟨n', h2⟩ := get_bad_l0 (b := b) k hk (a := (a : Int)) (e := 7) (by omega) m (IntKind.u64.wrap (((val s : Nat) : Int) * 2)) (i + 1) (by omega) (by omega)
      exact .inr ⟨by omega, n', by rw [show a = 8 * b.length by omega] at h2 ⊢; exact h2⟩
theorem get_spec (hb : Src b) {k : Nat} (hk : k ≤ 64) {a : Nat} (ha : a ≤ 8 * b.length) :
    (a + k ≤ 8 * b.length ∧ f_bits_Reader_Get_b86.f b (a : Int) 0 (k : Int) = some (((val (((bitsOf b).drop a).take k) : Nat) : Int), ((a + k : Nat) : Int), 0)) ∨
    (8 * b.length < a + k ∧ f_bits_Reader_Get_b86.f b (a : Int) 0 (k : Int) = some (0, ((8 * b.length : Nat) : Int), 7)) := by
  unfold f_bits_Reader_Get_b86.f
  rcases get_l0 hb k hk k [] a 0 (by omega) (by omega) (by simp) ha with ⟨h1, h2⟩ | ⟨h1, n', h2⟩
  · left
    refine ⟨h1, ?_⟩
    rw [show f_bits_Reader_Get_b86.l0 b (k : Int) (a : Int) 0 0 0 = _ from h2, sb]
    dsimp only
    rw [if_neg (by simp), List.nil_append]
  · right
    refine ⟨h1, ?_⟩
    rw [show f_bits_Reader_Get_b86.l0 b (k : Int) (a : Int) 0 0 0 = _ from h2, sb]
    dsimp only
    rw [if_pos (by simp)]
theorem six : IntKind.i64.wrap (((cl.length : Nat) : Int) - 1) = 6 := by decide
theorem ones_l0 (hb : Src b) : ∀ (m i a : Nat), i + m = 6 → a ≤ 8 * b.length → ∃ (c a1 : Nat) (e : Int), f_bits_Reader_Count_b86.l0 b cl (a : Int) 0 (i : Int) = some ((a1 : Int), e, (c : Int)) ∧ i ≤ c ∧ c ≤ 6 ∧ a1 ≤ 8 * b.length ∧
    ((e = 0 ∧ (bitsOf b).drop a = List.replicate (c - i) true ++ ((if c < 6 then [false] else []) ++ (bitsOf b).drop a1)) ∨ e ≠ 0) := by
  intro m
  induction m with
  | zero =>
    intro i a hi ha
    rw [f_bits_Reader_Count_b86.l0, six, if_neg (by simp; omega), sb]
    dsimp only
    rw [if_neg (by simp)]
    exact ⟨i, a, 0, rfl, by omega, by omega, ha, .inl ⟨rfl, by rw [if_neg (by omega)]; simp⟩⟩
  | succ m ih =>
    intro i a hi ha
    rw [f_bits_Reader_Count_b86.l0, six, if_pos (by simp; omega)]
    by_cases h : a < 8 * b.length
    · have hlt : a < (bitsOf b).length := by rw [bitsOf_len]; exact h
      rw [rbit_ok hb (List.getElem?_eq_getElem hlt), sb, sb]
      dsimp only
      cases e1 : (bitsOf b)[a] with
      | true =>
        rw [if_pos rfl, wrap64 (by omega) (by omega)]
        obtain ⟨c, a1, e, h1, h2, h3, h4, h5⟩ := ih (i + 1) (a + 1) (by omega) (by omega)
        refine ⟨c, a1, e, h1, by omega, h3, h4, ?_⟩
        rcases h5 with ⟨h5, h6⟩ | h5
        · refine .inl ⟨h5, ?_⟩
          rw [List.drop_eq_getElem_cons hlt, e1, h6, show c - i = (c - (i + 1)) + 1 by omega, List.replicate_succ, List.cons_append]
        · exact .inr h5
      | false =>
        rw [if_neg (by simp)]
        exact ⟨i, a + 1, 0, rfl, by omega, by omega, by omega, .inl ⟨rfl, by rw [if_pos (by omega), List.drop_eq_getElem_cons hlt, e1]; simp⟩⟩
    · rw [rbit_end hb (by omega), sb, sb]
      dsimp only
      rw [if_neg (by simp)]
      exact ⟨i, a, 7, rfl, by omega, by omega, ha, .inr (by omega)⟩
theorem ones_fwd (hb : Src b) (c : Nat) (hc : c ≤ 6) (t : List Bool) : ∀ (m i a : Nat), i + m = c → (bitsOf b).drop a = List.replicate m true ++ ((if c < 6 then [false] else []) ++ t) →
    f_bits_Reader_Count_b86.l0 b cl (a : Int) 0 (i : Int) = some (((a + m + (if c < 6 then 1 else 0) : Nat) : Int), 0, (c : Int)) := by
  intro m
  induction m with
  | zero =>
    intro i a hi h
    rw [f_bits_Reader_Count_b86.l0, six]
    by_cases h6 : c < 6
    · rw [if_pos h6] at h
      have hx : (bitsOf b)[a]? = some false := by
        have := congrArg (fun l => l[0]?) h
        simpa using this
      rw [if_pos (by simp; omega), rbit_ok hb hx, sb, sb]
      dsimp only
      rw [if_neg (by simp), if_pos h6, show i = c by omega]
    · rw [if_neg (by simp; omega), sb]
      dsimp only
      rw [if_neg (by simp), if_neg h6, show i = c by omega]; rfl
  | succ m ih =>
    intro i a hi h
    have hx : (bitsOf b)[a]? = some true := by
      have := congrArg (fun l => l[0]?) h
      simpa [List.replicate_succ] using this
    have hlt := (List.getElem?_eq_some_iff.1 hx).1
    have hn : (bitsOf b).drop (a + 1) = List.replicate m true ++ ((if c < 6 then [false] else []) ++ t) := by
      have := congrArg List.tail h
      rw [List.tail_drop, List.replicate_succ, List.cons_append, List.tail_cons] at this
      exact this
    rw [f_bits_Reader_Count_b86.l0, six, if_pos (by simp; omega), rbit_ok hb hx, sb, sb]
    dsimp only
    rw [if_pos rfl, wrap64 (by omega) (by omega)]
    have := ih (i + 1) (a + 1) (by omega) hn
    rw [show ((i : Int) + 1) = ((i + 1 : Nat) : Int) by omega, this]
    congr 2; omega
theorem ones_bad {a e : Int} (he : e ≠ 0) : f_bits_Reader_Count_b86.l0 b cl a e 0 = some (a, e, 0) := by
  rw [f_bits_Reader_Count_b86.l0, six, if_pos (by simp), rbit_bad he, sb, sb]
  dsimp only
  rw [if_neg (by simp)]
theorem count_bad {a e : Int} (he : e ≠ 0) : f_bits_Reader_Count_b86.f b a e = some (0, a, e) := by
  unfold f_bits_Reader_Count_b86.f f_bits_classes.f
  rw [sb, ones_bad he, sb]
  dsimp only
  rw [show at? cl 0 = some ((0 : Nat) : Int) from rfl, sb, get_bad (by omega) he, sb, if_neg (by simp), sb, if_neg (by simp), sb, if_pos (by simpa using he)]
theorem count_fwd (hb : Src b) {n : Nat} (hn : n < 18446744073709551616) {a : Nat} {t : List Bool} (ha : a ≤ 8 * b.length) (h : (bitsOf b).drop a = cnt2 n ++ t) :
    f_bits_Reader_Count_b86.f b (a : Int) 0 = some ((n : Int), ((a + (cnt2 n).length : Nat) : Int), 0) := by
  have hc := cls_lt (blen n)
  have hlen := congrArg List.length h
  rw [List.length_drop, bitsOf_len, List.length_append] at hlen
  rw [cnt2, List.append_assoc, List.append_assoc] at h
  unfold f_bits_Reader_Count_b86.f f_bits_classes.f
  rw [sb, show f_bits_Reader_Count_b86.l0 b cl (a : Int) 0 0 = _ from ones_fwd hb (cls (blen n)) (by omega) _ (cls (blen n)) 0 a (by omega) h, sb]
  dsimp only
  rw [at_nat rfl (cl_get hc), sb]
  generalize hp : a + cls (blen n) + (if cls (blen n) < 6 then 1 else 0) = p
  have hcl : (cnt2 n).length = cls (blen n) + (if cls (blen n) < 6 then 1 else 0) + wid (cls (blen n)) := by
    rw [cnt2, List.length_append, List.length_append, List.length_replicate, nb_len]; split <;> simp <;> omega
  have hd : (bitsOf b).drop p = nb n (wid (cls (blen n))) ++ t := by
    have := congrArg (List.drop (cls (blen n) + (if cls (blen n) < 6 then 1 else 0))) h
    rw [List.drop_drop, ← Nat.add_assoc, hp, ← List.append_assoc, List.drop_left' (by rw [List.length_append, List.length_replicate]; split <;> simp)] at this
    exact this
  have hpa : p + wid (cls (blen n)) = a + (cnt2 n).length := by omega
  have hmod : n % 2 ^ wid (cls (blen n)) = n := Nat.mod_eq_of_lt (blen_le.2 (le_wid (blen64 hn)))
  rcases get_spec hb (wid_le (cls (blen n))) (a := p) (by omega) with ⟨_, h2⟩ | ⟨h1, _⟩
  case inr => omega
  rw [hd, List.take_left' (nb_len ..), val_nb, hmod] at h2
  rw [h2, sb]
  dsimp only
  by_cases h0 : cls (blen n) = 0
  · rw [if_neg (by simp [h0]), sb, if_neg (by simp), sb, if_neg (by simp), hpa]
  · rw [if_pos (by simp; omega), long_eq hn, sb, wrap64 (by omega) (by omega), at_nat (k := cls (blen n) - 1) (by omega) (cl_get (by omega)), sb, sb,
      if_neg (by have := wid_lt (k := blen n) (i := cls (blen n) - 1) (by omega); simp; omega), sb, if_neg (by simp), hpa]
theorem wid_mono {i j : Nat} (h : i ≤ j) : wid i ≤ wid j := by
  rcases Nat.lt_or_ge j 6 with hj | hj
  · have hall : ∀ j : Fin 6, ∀ i : Fin 6, i.1 ≤ j.1 → wid i.1 ≤ wid j.1 := by decide
    exact hall ⟨j, hj⟩ ⟨i, by omega⟩ h
  · obtain ⟨k, rfl⟩ : ∃ k, j = k + 6 := ⟨j - 6, by omega⟩
    exact wid_le i
theorem count_rev (hb : Src b) {a : Nat} (ha : a ≤ 8 * b.length) : ∃ (n a1 : Nat) (e : Int), f_bits_Reader_Count_b86.f b (a : Int) 0 = some ((n : Int), (a1 : Int), e) ∧ a1 ≤ 8 * b.length ∧ n < 18446744073709551616 ∧
    ((e = 0 ∧ (bitsOf b).drop a = cnt2 n ++ (bitsOf b).drop a1) ∨ (e ≠ 0 ∧ n = 0)) := by
  unfold f_bits_Reader_Count_b86.f f_bits_classes.f
  obtain ⟨c, p, e, h1, h2, h3, h4, h5⟩ := ones_l0 hb 6 0 a rfl ha
  rw [sb, show f_bits_Reader_Count_b86.l0 b cl (a : Int) 0 0 = _ from h1, sb]
  dsimp only
  rw [at_nat rfl (cl_get (by omega)), sb]
  have hw := wid_le c
  by_cases he : e = 0
  case neg =>
    have hfin : ∀ x : Bool, (((if x = true then ((f_bits_Reader_fail_b86.f b (p : Int) e 6) >>= fun t3827 => some t3827) else (some e)) : Option (Int)) >>= fun x3829 => if (x3829 != (0 : Int)) = true then (some ((0 : Int), (p : Int), x3829)) else (some ((0 : Int), (p : Int), x3829))) = some (((0 : Nat) : Int), (p : Int), e) := fun x => by
      have : ((if x = true then ((f_bits_Reader_fail_b86.f b (p : Int) e 6) >>= fun t3827 => some t3827) else (some e)) : Option (Int)) = some e := by
        cases x
        · rw [if_neg (by simp)]
        · rw [if_pos rfl, rfail1 he, sb]
      rw [this, sb, if_pos (by simpa using he)]; rfl
    refine ⟨0, p, e, ?_, h4, by omega, .inr ⟨he, rfl⟩⟩
    rw [get_bad hw he, sb]
    dsimp only
    by_cases h0 : c = 0
    · rw [if_neg (by simp [h0]), sb]; exact hfin _
    · rw [if_pos (by simp; omega), show f_bits_long.f 0 = _ from long_eq (n := 0) (by omega), sb, wrap64 (by omega) (by omega), at_nat (k := c - 1) (by omega) (cl_get (by omega)), sb, sb]; exact hfin _
  subst he
  rcases h5 with ⟨_, h5⟩ | h5
  case inr => exact absurd rfl h5
  rcases get_spec hb hw h4 with ⟨g1, g2⟩ | ⟨g1, g2⟩
  case inr =>
    rw [g2, sb]
    dsimp only
    refine ⟨0, 8 * b.length, 7, ?_, by omega, by omega, .inr ⟨by omega, rfl⟩⟩
    have hfin : ∀ x : Bool, (((if x = true then ((f_bits_Reader_fail_b86.f b ((8 * b.length : Nat) : Int) 7 6) >>= fun t3827 => some t3827) else (some 7)) : Option (Int)) >>= fun x3829 => if (x3829 != (0 : Int)) = true then (some ((0 : Int), ((8 * b.length : Nat) : Int), x3829)) else (some ((0 : Int), ((8 * b.length : Nat) : Int), x3829))) = some (((0 : Nat) : Int), ((8 * b.length : Nat) : Int), 7) := fun x => by
      have : ((if x = true then ((f_bits_Reader_fail_b86.f b ((8 * b.length : Nat) : Int) 7 6) >>= fun t3827 => some t3827) else (some 7)) : Option (Int)) = some 7 := by
        cases x
        · rw [if_neg (by simp)]
        · rw [if_pos rfl, rfail1 (by omega), sb]
      rw [this, sb, if_pos (by simp)]; rfl
    by_cases h0 : c = 0
    · rw [if_neg (by simp [h0]), sb]; exact hfin _
    · rw [if_pos (by simp; omega), show f_bits_long.f 0 = _ from long_eq (n := 0) (by omega), sb, wrap64 (by omega) (by omega), at_nat (k := c - 1) (by omega) (cl_get (by omega)), sb, sb]; exact hfin _
  rw [g2, sb]
  dsimp only
  generalize hs : ((bitsOf b).drop p).take (wid c) = s
  have hsl : s.length = wid c := by rw [← hs, List.length_take, List.length_drop, bitsOf_len]; omega
  have hv := val_lt s
  have hv2 : 2 ^ s.length ≤ 2 ^ 64 := Nat.pow_le_pow_right (by omega) (by omega)
  have hn : val s < 18446744073709551616 := by omega
  have hbl : blen (val s) ≤ wid c := by rw [← hsl]; exact blen_le.1 hv
  have hdrop : (bitsOf b).drop p = s ++ (bitsOf b).drop (p + wid c) := by rw [← hs, ← List.drop_drop, List.take_append_drop]
  have good : (∀ j, j < c → wid j < blen (val s)) → (bitsOf b).drop a = cnt2 (val s) ++ (bitsOf b).drop (p + wid c) := fun hlt => by
    have hcls := cls_of hbl hlt (by omega)
    rw [h5, hdrop, cnt2, hcls, ← hsl, nb_val, Nat.sub_zero]; simp
  by_cases h0 : c = 0
  · rw [if_neg (by simp [h0]), sb, if_neg (by simp), sb, if_neg (by simp)]
    exact ⟨val s, p + wid c, 0, rfl, by omega, hn, .inl ⟨rfl, good (fun j hj => by omega)⟩⟩
  · rw [if_pos (by simp; omega), long_eq hn, sb, wrap64 (by omega) (by omega), at_nat (k := c - 1) (by omega) (cl_get (by omega)), sb, sb]
    by_cases hl : blen (val s) ≤ wid (c - 1)
    · rw [if_pos (by simp; omega), rfail0, sb, sb, if_pos (by simp)]
      exact ⟨0, p + wid c, 6, rfl, by omega, by omega, .inr ⟨by omega, rfl⟩⟩
    · rw [if_neg (by simp; omega), sb, if_neg (by simp)]
      refine ⟨val s, p + wid c, 0, rfl, by omega, hn, .inl ⟨rfl, good (fun j hj => ?_)⟩⟩
      have := wid_mono (i := j) (j := c - 1) (by omega)
      omega
theorem small_bad {a e m : Int} (he : e ≠ 0) : f_bits_Reader_Small_b86.f b a e m = some (0, a, e) := by
  unfold f_bits_Reader_Small_b86.f
  rw [count_bad he, sb]
  have : ((if (decide (m < (0 : Int))) = true then (some true) else (some (decide ((0 : Int) > (IntKind.u64.wrap (m)))))) : Option (Bool)) = some (decide (m < 0)) := by
    by_cases h : m < 0
    · simp [h]
    · rw [if_neg (by simpa using h)]
      have := (u64_wrap m).1
      simp [h]; omega
  rw [this, sb]
  by_cases h : m < 0
  · rw [if_pos (by simpa using h), rfail1 he, sb]
  · rw [if_neg (by simpa using h), show IntKind.i64.wrap 0 = 0 by decide]
theorem small_fwd (hb : Src b) {n m : Nat} (hn : n ≤ m) (hm : m < 9223372036854775808) {a : Nat} {t : List Bool} (ha : a ≤ 8 * b.length) (h : (bitsOf b).drop a = cnt2 n ++ t) :
    f_bits_Reader_Small_b86.f b (a : Int) 0 (m : Int) = some ((n : Int), ((a + (cnt2 n).length : Nat) : Int), 0) := by
  unfold f_bits_Reader_Small_b86.f
  rw [count_fwd hb (by omega) ha h, sb, if_neg (by simp), wrapU (by omega) (by omega), sb, if_neg (by simp; omega), wrap64 (by omega) (by omega)]
theorem small_rev (hb : Src b) {m : Nat} (hm : m < 9223372036854775808) {a : Nat} (ha : a ≤ 8 * b.length) : ∃ (n a1 : Nat) (e : Int), f_bits_Reader_Small_b86.f b (a : Int) 0 (m : Int) = some ((n : Int), (a1 : Int), e) ∧ a1 ≤ 8 * b.length ∧ n ≤ m ∧
    ((e = 0 ∧ (bitsOf b).drop a = cnt2 n ++ (bitsOf b).drop a1) ∨ (e ≠ 0 ∧ n = 0)) := by
  unfold f_bits_Reader_Small_b86.f
  obtain ⟨n, a1, e, h1, h2, h3, h4⟩ := count_rev hb ha
  rw [h1, sb, if_neg (by simp), wrapU (by omega) (by omega), sb]
  dsimp only
  by_cases h : n ≤ m
  · rw [if_neg (by simp; omega), wrap64 (by omega) (by omega)]
    exact ⟨n, a1, e, rfl, h2, h, h4⟩
  · rw [if_pos (by simp; omega)]
    rcases h4 with ⟨rfl, _⟩ | ⟨_, h5⟩
    · rw [rfail0, sb]
      exact ⟨0, a1, 9, rfl, h2, by omega, .inr ⟨by omega, rfl⟩⟩
    · omega
end Go.Proofs.Yteogljahemehkaa.PvGC1
set_option linter.unusedVariables false
set_option linter.unusedSimpArgs false
namespace Go.Proofs.Yteogljahemehkaa.PvGC1
open Go Go.Pv Go.Pv.GS
def layB : Int → List Ttomb_Range → List Bool
  | _, [] => []
  | last, r :: l => cnt2 (r.f0 - last).toNat ++ (cnt2 (r.f1 - r.f0).toNat ++ layB (r.f1 + 2) l)
def Behind (last : Int) (l : List Ttomb_Range) : Prop := 0 ≤ last ∧ last ≤ 1099511627778 ∧ Apart l ∧ ∀ r ∈ l, last ≤ r.f0
theorem Behind.next {last : Int} {r : Ttomb_Range} {l : List Ttomb_Range} (h : Behind last (r :: l)) : Behind (r.f1 + 2) l :=
  ⟨by have := h.2.2.1.head; omega, by have := h.2.2.1.head; omega, h.2.2.1.tail, fun x hx => by have := (List.pairwise_cons.1 h.2.2.1.gap).1 x hx; omega⟩
theorem layB_len : ∀ (l : List Ttomb_Range) (last : Int), (layB last l).length ≤ 142 * l.length
  | [], _ => by simp [layB]
  | r :: l, last => by
    have := layB_len l (r.f1 + 2)
    have := cnt2_len (r.f0 - last).toNat
    have := cnt2_len (r.f1 - r.f0).toNat
    simp only [layB, List.length_append, List.length_cons]; omega
theorem wcount0 (f n : Int) : f_bits_Writer_Count_030.f f n = f_bits_Writer_Count_ba5.f [] f n := by kernel_rfl
theorem lay_l0 (l : List Ttomb_Range) (hl : l.length < 1000) : ∀ (suf pre : List Ttomb_Range) (b : List Int) (f : Nat) (s : List Bool) (last i : Int), l = pre ++ suf → i = (pre.length : Int) → Behind last suf → s.length + 142 * suf.length < 700000000 → Laid b f s →
    ∃ (b' : List Int) (f' : Nat), f_tomb_Set_Lay_2b3.l0 ⟨l⟩ b (f : Int) last i = some (b', (f' : Int)) ∧ Laid b' f' (s ++ layB last suf) := by
  intro suf
  induction suf with
  | nil =>
    intro pre b f s last i h1 hi hB hs h
    rw [f_tomb_Set_Lay_2b3.l0, if_neg (by rw [h1]; simp [hi])]
    exact ⟨b, f, rfl, by simpa [layB] using h⟩
  | cons r suf ih =>
    intro pre b f s last i h1 hi hB hs h
    have hlen : l.length = pre.length + (suf.length + 1) := by rw [h1]; simp
    have hr := hB.2.2.1.head
    have hr2 := hB.2.2.2 r (by simp)
    have hb1 := hB.1
    have hb2 := hB.2.1
    have hc1 := cnt2_len (r.f0 - last).toNat
    have hc2 := cnt2_len (r.f1 - r.f0).toNat
    simp only [List.length_cons] at hs
    rw [f_tomb_Set_Lay_2b3.l0, if_pos (by simp; omega), at_mid h1 hi, sb, wrap64 (n := r.f0 - last) (by omega) (by omega), wrap64 (n := r.f1 - r.f0) (by omega) (by omega), wrapU (n := r.f0 - last) (by omega) (by omega), wrapU (n := r.f1 - r.f0) (by omega) (by omega), wrap64 (n := r.f1 + 2) (by omega) (by omega), wrap64 (n := i + 1) (by omega) (by omega)]
    obtain ⟨b1, f1, e1, h1'⟩ := wcount h (by omega) (n := r.f0 - last) (by omega) (by omega)
    obtain ⟨b2, f2, e2, h2'⟩ := wcount h1' (by simp; omega) (n := r.f1 - r.f0) (by omega) (by omega)
    rw [e1, sb]
    dsimp only
    rw [e2, sb]
    obtain ⟨b3, f3, e3, h3'⟩ := ih (pre ++ [r]) b2 f2 _ (r.f1 + 2) (i + 1) (by simp [h1]) (by simp; omega) hB.next (by simp; omega) h2'
    exact ⟨b3, f3, e3, by rw [layB]; simpa using h3'⟩
theorem lay_eq (l : List Ttomb_Range) (hl : l.length < 1000) (h : Apart l) : ∃ (b : List Int) (f : Nat), f_tomb_Set_Lay_2b3.f ⟨l⟩ 0 = some (b, (f : Int)) ∧ Laid b f (cnt2 l.length ++ layB 0 l) := by
  have hc := cnt2_len l.length
  have hB : Behind 0 l := ⟨by omega, by omega, h, fun r hr => (h.right r hr).1⟩
  unfold f_tomb_Set_Lay_2b3.f
  dsimp only
  rw [wcount0, wrapU (by omega) (by omega)]
  obtain ⟨b1, f1, e1, h1⟩ := wcount (n := (l.length : Int)) Laid.nil (by simp) (by omega) (by omega)
  rw [show f_bits_Writer_Count_ba5.f [] 0 (l.length : Int) = _ from e1, sb]
  dsimp only
  rw [List.nil_append, Int.toNat_natCast] at h1
  obtain ⟨b2, f2, e2, h2⟩ := lay_l0 l hl l [] b1 f1 _ 0 0 rfl rfl hB (by omega) h1
  rw [e2, sb]
  exact ⟨b2, f2, rfl, h2⟩
theorem rlay_l0 (l : List Ttomb_Range) (hl : l.length < 1000) : ∀ (suf pre : List Ttomb_Range) (s : List Bool) (last i : Int), l = pre ++ suf → i = (pre.length : Int) → Behind last suf → s.length + 142 * suf.length < 700000000 →
    f_pluviallaw14_TombLays_1.l0 l (strB s) last i = some (strB (s ++ layB last suf)) := by
  intro suf
  induction suf with
  | nil =>
    intro pre s last i h1 hi hB hs
    rw [f_pluviallaw14_TombLays_1.l0, if_neg (by rw [h1]; simp [hi])]
    simp [layB]
  | cons r suf ih =>
    intro pre s last i h1 hi hB hs
    have hlen : l.length = pre.length + (suf.length + 1) := by rw [h1]; simp
    have hr := hB.2.2.1.head
    have hr2 := hB.2.2.2 r (by simp)
    have hb1 := hB.1
    have hb2 := hB.2.1
    have hc1 := cnt2_len (r.f0 - last).toNat
    have hc2 := cnt2_len (r.f1 - r.f0).toNat
    have q1 : f_pluvialref02_Count.f (r.f0 - last) = some (strB (cnt2 (r.f0 - last).toNat)) := by
      have := rcount (n := (r.f0 - last).toNat) (by omega)
      rwa [Int.toNat_of_nonneg (by omega)] at this
    have q2 : f_pluvialref02_Count.f (r.f1 - r.f0) = some (strB (cnt2 (r.f1 - r.f0).toNat)) := by
      have := rcount (n := (r.f1 - r.f0).toNat) (by omega)
      rwa [Int.toNat_of_nonneg (by omega)] at this
    simp only [List.length_cons] at hs
    rw [f_pluviallaw14_TombLays_1.l0, if_pos (by simp; omega), at_mid h1 hi, sb, wrap64 (n := r.f0 - last) (by omega) (by omega), wrap64 (n := r.f1 - r.f0) (by omega) (by omega), wrapU (n := r.f0 - last) (by omega) (by omega), wrapU (n := r.f1 - r.f0) (by omega) (by omega), wrap64 (n := r.f1 + 2) (by omega) (by omega), wrap64 (n := i + 1) (by omega) (by omega),
      q1, sb, q2, sb, chkB (by rw [strB_size, strB_size]; omega), ← strB_append, chkB (by rw [strB_size, strB_size]; simp; omega), ← strB_append]
    rw [ih (pre ++ [r]) _ (r.f1 + 2) (i + 1) (by simp [h1]) (by simp; omega) hB.next (by simp; omega), layB]
    simp
theorem rlay_eq (l : List Ttomb_Range) (hl : l.length < 1000) (h : Apart l) : f_pluviallaw14_TombLays_1.f ⟨l⟩ = some (strB (cnt2 l.length ++ layB 0 l)) := by
  have hc := cnt2_len l.length
  have hB : Behind 0 l := ⟨by omega, by omega, h, fun r hr => (h.right r hr).1⟩
  unfold f_pluviallaw14_TombLays_1.f
  rw [ranges_eq _ (by show l.length < _; omega), sb]
  dsimp only
  rw [wrapU (by omega) (by omega), rcount (by omega), sb, rlay_l0 l hl l [] _ 0 0 rfl rfl hB (by omega), sb]
theorem take_l0 {b : List Int} (hb : Src b) (t : Int × Int × Int) (x : List Ttomb_Range) (hx : x.length < 1000) (ht : t.1 = (x.length : Int)) (z : List Bool) : ∀ (suf pre : List Ttomb_Range) (a : Nat) (last i : Int), x = pre ++ suf → i = (pre.length : Int) → Behind last suf → a ≤ 8 * b.length →
    (bitsOf b).drop a = layB last suf ++ z → ∃ a' : Nat, f_tomb_Take_b86.l0 b t (a : Int) 0 pre last i = some ((a' : Int), 0, x) ∧ a' ≤ 8 * b.length ∧ (bitsOf b).drop a' = z := by
  intro suf
  induction suf with
  | nil =>
    intro pre a last i h1 hi hB ha h
    rw [List.append_nil] at h1
    subst h1
    rw [f_tomb_Take_b86.l0, if_neg (by simp; omega), sb, if_neg (by simp)]
    exact ⟨a, rfl, ha, by simpa [layB] using h⟩
  | cons r suf ih =>
    intro pre a last i h1 hi hB ha h
    have hlen : x.length = pre.length + (suf.length + 1) := by rw [h1]; simp
    have hr := hB.2.2.1.head
    have hr2 := hB.2.2.2 r (by simp)
    have hb1 := hB.1
    have hb2 := hB.2.1
    rw [layB, List.append_assoc, List.append_assoc] at h
    have l1 := congrArg List.length h
    simp only [List.length_drop, bitsOf_len, List.length_append] at l1
    have s1 := small_fwd hb (n := (r.f0 - last).toNat) (m := 1099511627776) (by omega) (by omega) ha h
    have d1 : (bitsOf b).drop (a + (cnt2 (r.f0 - last).toNat).length) = cnt2 (r.f1 - r.f0).toNat ++ (layB (r.f1 + 2) suf ++ z) := by
      rw [← List.drop_drop, h, List.drop_left]
    have s2 := small_fwd hb (n := (r.f1 - r.f0).toNat) (m := 1099511627776) (by omega) (by omega) (by omega) d1
    have d2 : (bitsOf b).drop (a + (cnt2 (r.f0 - last).toNat).length + (cnt2 (r.f1 - r.f0).toNat).length) = layB (r.f1 + 2) suf ++ z := by
      rw [← List.drop_drop, d1, List.drop_left]
    unfold f_tomb_Take_b86.l0 f_bits_Reader_Err_b86.f
    rw [if_pos (by simp; omega), sb, sb, if_pos (by simp), show f_bits_Reader_Small_b86.f b (a : Int) 0 1099511627776 = _ from s1, sb]
    dsimp only
    rw [show f_bits_Reader_Small_b86.f b ((a + (cnt2 (r.f0 - last).toNat).length : Nat) : Int) 0 1099511627776 = _ from s2, sb]
    dsimp only
    rw [wrap64 (n := last + ((r.f0 - last).toNat : Int)) (by omega) (by omega), wrap64 (n := last + ((r.f0 - last).toNat : Int) + ((r.f1 - r.f0).toNat : Int)) (by omega) (by omega), if_neg (by simp; omega), sb]
    dsimp only
    have er : (⟨last + ((r.f0 - last).toNat : Int), last + ((r.f0 - last).toNat : Int) + ((r.f1 - r.f0).toNat : Int)⟩ : Ttomb_Range) = r := by
      have e0 : last + ((r.f0 - last).toNat : Int) = r.f0 := by omega
      have e1 : r.f0 + ((r.f1 - r.f0).toNat : Int) = r.f1 := by omega
      rw [e0, e1]
    rw [er, chkB (by simp; omega), show last + ((r.f0 - last).toNat : Int) + ((r.f1 - r.f0).toNat : Int) = r.f1 by omega, wrap64 (n := r.f1 + 2) (by omega) (by omega), wrap64 (n := i + 1) (by omega) (by omega)]
    exact ih (pre ++ [r]) _ (r.f1 + 2) (i + 1) (by simp [h1]) (by simp; omega) hB.next (by omega) d2
theorem take_fwd {b : List Int} (hb : Src b) (x : List Ttomb_Range) (hx : x.length ≤ 60) (h : Apart x) (z : List Bool) (hd : bitsOf b = (cnt2 x.length ++ layB 0 x) ++ z) : ∃ a' : Nat, f_tomb_Take_b86.f b 0 0 60 = some (⟨x⟩, (a' : Int), 0) ∧ a' ≤ 8 * b.length ∧ (bitsOf b).drop a' = z := by
  have hB : Behind 0 x := ⟨by omega, by omega, h, fun r hr => (h.right r hr).1⟩
  have l1 := congrArg List.length hd
  simp only [bitsOf_len, List.length_append] at l1
  have s1 := small_fwd hb (n := x.length) (m := 60) (a := 0) hx (by omega) (by omega) (t := layB 0 x ++ z) (by rw [List.drop_zero, hd, List.append_assoc])
  unfold f_tomb_Take_b86.f f_bits_Reader_Err_b86.f
  rw [show f_bits_Reader_Small_b86.f b 0 0 60 = _ from s1, sb]
  dsimp only
  obtain ⟨a', e, h1, h2⟩ := take_l0 hb ((x.length : Int), ((0 + (cnt2 x.length).length : Nat) : Int), 0) x (by omega) rfl z x [] (0 + (cnt2 x.length).length) 0 0 rfl rfl hB (by omega) (by rw [Nat.zero_add, hd, List.append_assoc, List.drop_left])
  rw [e, sb]
  dsimp only
  rw [sb, if_neg (by simp)]
  exact ⟨a', rfl, h1, h2⟩
theorem end_l0 {b : List Int} (hb : Src b) : ∀ (f a : Nat), a + f = 8 * b.length → (bitsOf b).drop a = List.replicate f false → ∃ a' : Int, f_bits_Reader_End_b86.l0 b (a : Int) 0 = some (a', 0) := by
  intro f
  have hl := hb.len
  induction f with
  | zero =>
    intro a ha h
    unfold f_bits_Reader_End_b86.l0 f_bits_Reader_Left_b86.f
    rw [if_pos (by simp), sb, wrap64 (n := (8 : Int) * (b.length : Int)) (by omega) (by omega), wrap64 (by omega) (by omega), sb, if_neg (by simp; omega)]
    exact ⟨_, rfl⟩
  | succ f ih =>
    intro a ha h
    have hx : (bitsOf b)[a]? = some false := by
      have := congrArg (fun l => l[0]?) h
      simpa [List.replicate_succ] using this
    have hn : (bitsOf b).drop (a + 1) = List.replicate f false := by
      have := congrArg List.tail h
      rw [List.tail_drop, List.replicate_succ, List.tail_cons] at this
      exact this
    unfold f_bits_Reader_End_b86.l0 f_bits_Reader_Left_b86.f
    rw [if_pos (by simp), sb, wrap64 (n := (8 : Int) * (b.length : Int)) (by omega) (by omega), wrap64 (by omega) (by omega), sb, if_pos (by simp; omega), rbit_ok hb hx, sb]
    dsimp only
    rw [if_neg (by simp), sb]
    exact ih (a + 1) (by omega) hn
theorem end_ok {b : List Int} (hb : Src b) {a f : Nat} (hf : f < 8) (ha : a ≤ 8 * b.length) (h : (bitsOf b).drop a = List.replicate f false) : ∃ a' : Int, f_bits_Reader_End_b86.f b (a : Int) 0 = some (0, a', 0) := by
  have hl := hb.len
  have l1 := congrArg List.length h
  rw [List.length_drop, bitsOf_len, List.length_replicate] at l1
  obtain ⟨a', e⟩ := end_l0 hb f a (by omega) h
  unfold f_bits_Reader_End_b86.f f_bits_Reader_Left_b86.f
  rw [if_pos (by simp), sb, wrap64 (n := (8 : Int) * (b.length : Int)) (by omega) (by omega), wrap64 (by omega) (by omega), sb, if_neg (by simp; omega), sb, e, sb]
  exact ⟨a', rfl⟩
theorem small_neg {b : List Int} (hb : Src b) {a : Nat} (ha : a ≤ 8 * b.length) : ∃ (a1 : Nat) (e : Int), f_bits_Reader_Small_b86.f b (a : Int) 0 (-1) = some (0, (a1 : Int), e) ∧ a1 ≤ 8 * b.length ∧ e ≠ 0 := by
  unfold f_bits_Reader_Small_b86.f
  obtain ⟨n, a1, e, h1, h2, h3, h4⟩ := count_rev hb ha
  rw [h1, sb, if_pos (by simp), sb, if_pos rfl]
  dsimp only
  by_cases he : e = 0
  · subst he; rw [rfail0, sb]; exact ⟨a1, 9, rfl, h2, by omega⟩
  · rw [rfail1 he, sb]; exact ⟨a1, e, rfl, h2, he⟩
theorem take_rev_l0 {b : List Int} (hb : Src b) (t : Int × Int × Int) (n : Nat) (hn : n < 1000) (ht : t.1 = (n : Int)) : ∀ (m : Nat) (pre : List Ttomb_Range) (a : Nat) (last i : Int), pre.length + m = n → i = (pre.length : Int) → 0 ≤ last → last ≤ 1099511627778 → Apart pre → (∀ r ∈ pre, r.f1 + 2 ≤ last) → a ≤ 8 * b.length →
    ∃ (a' : Nat) (e : Int) (l : List Ttomb_Range), f_tomb_Take_b86.l0 b t (a : Int) 0 pre last i = some ((a' : Int), e, l) ∧ a' ≤ 8 * b.length ∧ (e ≠ 0 ∨ (e = 0 ∧ l.length = n ∧ Apart l ∧ ∃ suf, l = pre ++ suf ∧ (bitsOf b).drop a = layB last suf ++ (bitsOf b).drop a')) := by
  intro m
  induction m with
  | zero =>
    intro pre a last i hp hi h0 h1 hA hg ha
    rw [f_tomb_Take_b86.l0, if_neg (by simp; omega), sb, if_neg (by simp)]
    exact ⟨a, 0, pre, rfl, ha, .inr ⟨rfl, by omega, hA, [], by simp, by simp [layB]⟩⟩
  | succ m ih =>
    intro pre a last i hp hi h0 h1 hA hg ha
    obtain ⟨d1, a1, e1, s1, k1, k2, k3⟩ := small_rev hb (m := 1099511627776) (by omega) ha
    have stop : ∀ (a2 : Nat) (e2 : Int) (l : List Ttomb_Range) (la : Int) (i' : Int), a2 ≤ 8 * b.length → e2 ≠ 0 → ∃ (a' : Nat) (e : Int) (l' : List Ttomb_Range), f_tomb_Take_b86.l0 b t (a2 : Int) e2 l la i' = some ((a' : Int), e, l') ∧ a' ≤ 8 * b.length ∧ (e ≠ 0 ∨ (e = 0 ∧ l'.length = n ∧ Apart l' ∧ ∃ suf, l' = pre ++ suf ∧ (bitsOf b).drop a = layB last suf ++ (bitsOf b).drop a')) := fun a2 e2 l la i' q1 q2 => by
      unfold f_tomb_Take_b86.l0 f_bits_Reader_Err_b86.f
      have : ((if (decide (i' < t.1)) = true then ((some () : Option Unit) >>= fun t3891 => some (e2 == (0 : Int))) else (some false)) : Option (Bool)) = some false := by
        split
        · rw [sb]; simp [q2]
        · rfl
      rw [this, sb, if_neg (by simp)]
      exact ⟨a2, e2, l, rfl, q1, .inl q2⟩
    unfold f_tomb_Take_b86.l0 f_bits_Reader_Err_b86.f
    rw [if_pos (by simp; omega), sb, sb, if_pos (by simp), show f_bits_Reader_Small_b86.f b (a : Int) 0 1099511627776 = _ from s1, sb]
    dsimp only
    have hroom : ∀ r : Ttomb_Range, (pre.length + [r].length) * 16 ≤ 140737488355328 := fun r => by simp; omega
    rcases k3 with ⟨rfl, k3⟩ | ⟨k3, rfl⟩
    case inr =>
      rw [small_bad k3, sb]
      dsimp only
      have w1 : IntKind.i64.wrap (last + ((0 : Nat) : Int)) = last := by rw [wrap64 (by omega) (by omega)]; simp
      have w2 : IntKind.i64.wrap (last + 0) = last := by rw [wrap64 (by omega) (by omega)]; simp
      rw [w1, w2]
      by_cases hlt : last > 1099511627776
      · rw [if_pos (by simpa using hlt), small_bad k3, sb, sb]
        dsimp only
        rw [chkB (hroom _)]
        exact stop a1 e1 _ _ _ k1 k3
      · rw [if_neg (by simpa using hlt), sb]
        dsimp only
        rw [chkB (hroom _)]
        exact stop a1 e1 _ _ _ k1 k3
    obtain ⟨d2, a2, e2, s2, j1, j2, j3⟩ := small_rev hb (m := 1099511627776) (by omega) k1
    rw [show f_bits_Reader_Small_b86.f b (a1 : Int) 0 1099511627776 = _ from s2, sb]
    dsimp only
    rw [wrap64 (n := last + (d1 : Int)) (by omega) (by omega), wrap64 (n := last + (d1 : Int) + (d2 : Int)) (by omega) (by omega)]
    by_cases he2 : e2 = 0
    case neg =>
      by_cases hlt : last + (d1 : Int) + (d2 : Int) > 1099511627776
      · rw [if_pos (by simpa using hlt), small_bad he2, sb, sb]
        dsimp only
        rw [chkB (hroom _)]
        exact stop a2 e2 _ _ _ j1 he2
      · rw [if_neg (by simpa using hlt), sb]
        dsimp only
        rw [chkB (hroom _)]
        exact stop a2 e2 _ _ _ j1 he2
    subst he2
    rcases j3 with ⟨_, j3⟩ | ⟨j3, _⟩
    case inr => exact absurd rfl j3
    by_cases hlt : last + (d1 : Int) + (d2 : Int) > 1099511627776
    · obtain ⟨a3, e3, s3, q1, q2⟩ := small_neg hb j1
      rw [if_pos (by simpa using hlt), s3, sb, sb]
      dsimp only
      rw [chkB (hroom _)]
      exact stop a3 e3 _ _ _ q1 q2
    · rw [if_neg (by simpa using hlt), sb]
      dsimp only
      rw [chkB (hroom _), wrap64 (n := last + (d1 : Int) + (d2 : Int) + 2) (by omega) (by omega), wrap64 (n := i + 1) (by omega) (by omega)]
      have hA' : Apart (pre ++ [(⟨last + (d1 : Int), last + (d1 : Int) + (d2 : Int)⟩ : Ttomb_Range)]) := apart_snoc hA ⟨by show 0 ≤ last + (d1 : Int); omega, by show last + (d1 : Int) ≤ last + (d1 : Int) + (d2 : Int); omega, by show last + (d1 : Int) + (d2 : Int) ≤ 1099511627776; omega⟩ (fun r hr => by have := hg r hr; show r.f1 + 1 < last + (d1 : Int); omega)
      obtain ⟨a', e, l, g1, g2, g3⟩ := ih (pre ++ [(⟨last + (d1 : Int), last + (d1 : Int) + (d2 : Int)⟩ : Ttomb_Range)]) a2 (last + (d1 : Int) + (d2 : Int) + 2) (i + 1) (by simp; omega) (by simp; omega) (by omega) (by omega) hA' (fun r hr => by
        rcases List.mem_append.1 hr with hr | hr
        · have := hg r hr; omega
        · simp at hr; subst hr; show last + (d1 : Int) + (d2 : Int) + 2 ≤ _; omega) j1
      refine ⟨a', e, l, g1, g2, ?_⟩
      rcases g3 with g3 | ⟨g3, g4, g5, suf, g6, g7⟩
      · exact .inl g3
      · refine .inr ⟨g3, g4, g5, (⟨last + (d1 : Int), last + (d1 : Int) + (d2 : Int)⟩ : Ttomb_Range) :: suf, by rw [g6]; simp, ?_⟩
        rw [k3, j3, g7, layB]
        show _ = cnt2 (last + (d1 : Int) - last).toNat ++ (cnt2 (last + (d1 : Int) + (d2 : Int) - (last + (d1 : Int))).toNat ++ layB (last + (d1 : Int) + (d2 : Int) + 2) suf) ++ _
        rw [show (last + (d1 : Int) - last).toNat = d1 by omega, show (last + (d1 : Int) + (d2 : Int) - (last + (d1 : Int))).toNat = d2 by omega]
        simp
theorem take_rev {b : List Int} (hb : Src b) {m : Nat} (hm : m < 256) : ∃ (z : List Ttomb_Range) (a : Nat) (e : Int), f_tomb_Take_b86.f b 0 0 (m : Int) = some (⟨z⟩, (a : Int), e) ∧ a ≤ 8 * b.length ∧ ((e ≠ 0 ∧ z = []) ∨ (e = 0 ∧ z.length ≤ m ∧ Apart z ∧ bitsOf b = cnt2 z.length ++ layB 0 z ++ (bitsOf b).drop a)) := by
  unfold f_tomb_Take_b86.f
  obtain ⟨n, a1, e1, s1, k1, k2, k3⟩ := small_rev hb (m := m) (a := 0) (by omega) (by omega)
  rw [show f_bits_Reader_Small_b86.f b 0 0 (m : Int) = _ from s1, sb]
  dsimp only
  by_cases he : e1 = 0
  case neg =>
    rcases k3 with ⟨k3, _⟩ | ⟨_, rfl⟩
    · exact absurd k3 he
    unfold f_tomb_Take_b86.l0 f_bits_Reader_Err_b86.f
    rw [if_neg (by simp), sb, if_neg (by simp), sb]
    dsimp only
    rw [sb, if_pos (by simpa using he)]
    exact ⟨[], a1, e1, rfl, k1, .inl ⟨he, rfl⟩⟩
  subst he
  rcases k3 with ⟨_, k3⟩ | ⟨k3, _⟩
  case inr => exact absurd rfl k3
  obtain ⟨a', e, l, g1, g2, g3⟩ := take_rev_l0 hb ((n : Int), (a1 : Int), 0) n (by omega) rfl n [] a1 0 0 (by simp) rfl (by omega) (by omega) Apart.nil (by simp) k1
  rw [g1, sb]
  unfold f_bits_Reader_Err_b86.f
  dsimp only
  rw [sb]
  rcases g3 with g3 | ⟨rfl, g4, g5, suf, g6, g7⟩
  · rw [if_pos (by simpa using g3)]
    exact ⟨[], a', e, rfl, g2, .inl ⟨g3, rfl⟩⟩
  · rw [if_neg (by simp)]
    rw [List.nil_append] at g6
    subst g6
    refine ⟨l, a', 0, rfl, g2, .inr ⟨rfl, by omega, g5, ?_⟩⟩
    rw [List.drop_zero] at k3
    exact k3.trans (by rw [g7, List.append_assoc, g4])
theorem strB_take (s : List Bool) (k : Nat) : (strB s).extract 0 k = strB (s.take k) := ext_L (by
  rw [L_extract, L_strB, L_strB, List.drop_zero, Nat.sub_zero, List.map_take])
theorem tombLays_R (a : List Ttomb_Range) (b : List Int) (most : Int) (ha : a.length ≤ maxLen ∧ ∀ y ∈ a, Rtomb_Range y) (hb : b.length ≤ maxLen ∧ ∀ y ∈ b, Rng 0 256 y) (hm : Rng 0 256 most) :
    f_pluviallaw14_TombLays.f a b most = some true := by
  unfold f_pluviallaw14_TombLays.f
  by_cases g : a.length ≤ 60 ∧ b.length ≤ 300
  case neg =>
    have : ((if (decide ((a.length : Int) > (60 : Int))) = true then (some true) else (some (decide ((b.length : Int) > (300 : Int))))) : Option Bool) = some true := by
      by_cases h : 60 < a.length
      · rw [if_pos (by simp; omega)]
      · rw [if_neg (by simp; omega)]; simp; omega
    rw [this, sb, if_pos rfl, awake14, sb]
  obtain ⟨g1, g2⟩ := g
  rw [if_neg (by simp; omega), sb, if_neg (by simp; omega), to_eq a (by omega), sb]
  obtain ⟨x, ex, hx, hx2, hx3⟩ := of_spec a (by omega)
  rw [ex, sb]
  obtain ⟨w, f, ew, hw⟩ := lay_eq x (by omega) hx
  have hlb := layB_len x 0
  have hcl := cnt2_len x.length
  have hwl := hw.len
  have hwf := hw.lt
  rw [List.length_append] at hwl
  have hwn : w.length < 100000000 := by omega
  rw [ew, sb]
  unfold f_bits_Writer_Bytes_ba5.f f_bits_Writer_Bytes_657.f f_slices_Clone_byte.f f_bits_Read.f
  obtain ⟨v, f2, ev, hv⟩ := rbytes (cnt2 x.length ++ layB 0 x) (by rw [List.length_append]; omega)
  have hvw := hw.unique hv
  subst hvw
  dsimp only
  rw [chkB (by simp; omega), sb, sb, rlay_eq x (by omega) hx, sb, ev, sb, if_neg (by simp), sb, sb, sb]
  have hsw : Src w := ⟨hw.byte, hwn⟩
  obtain ⟨a1, e1, h1, h1b⟩ := take_fwd hsw x (by omega) hx (List.replicate f false) hw.bits
  rw [e1, sb]
  dsimp only
  rw [same14 x x (by omega) (by omega), sb, if_neg (by simp)]
  obtain ⟨a2, e2⟩ := end_ok hsw hwf h1 h1b
  rw [e2, sb]
  dsimp only
  rw [sb, if_neg (by simp), wrap64 (n := most) (by have := hm.1; omega) (by have := hm.2; omega)]
  have hsb : Src b := ⟨fun y hy => hb.2 y hy, by omega⟩
  obtain ⟨m, rfl⟩ := Int.eq_ofNat_of_zero_le hm.1
  have hm2 := hm.2
  obtain ⟨z, a3, e, e3, h3, h4⟩ := take_rev hsb (m := m) (by omega)
  rw [e3, sb]
  unfold f_bits_Reader_Err_b86.f f_tomb_Set_Empty.f f_bits_Reader_Left_b86.f
  dsimp only
  rw [sb]
  rcases h4 with ⟨h4, rfl⟩ | ⟨rfl, h5, h6, h7⟩
  · rw [if_pos (by simpa using h4), awake14, sb, if_pos rfl, sb]; rfl
  have hbl := hsb.len
  have l7 := congrArg List.length h7
  rw [List.length_append, bitsOf_len, List.length_drop, bitsOf_len] at l7
  have hrz := rlay_eq z (by omega) h6
  generalize cnt2 z.length ++ layB 0 z = S at *
  rw [if_neg (by simp), hrz, sb, rtext b (by omega) hsb.byte, sb, awake14, sb, if_pos rfl, ranges_eq _ (by show z.length < _; omega), sb, apart_true z (by omega) h6, sb, if_pos rfl, sb, if_pos (by simp; omega), strB_size, strB_size, bitsOf_len,
    if_pos (by simp; omega), chkB (by omega), Int.toNat_natCast]
  have hex : (strB (bitsOf b)).extract (Int.toNat 0) S.length = strB S := by
    rw [show Int.toNat 0 = 0 from rfl, strB_take]
    congr 1
    exact (congrArg _ h7).trans List.take_left
  rw [hex, if_pos (by simp), sb, wrap64 (n := (8 : Int) * (b.length : Int)) (by omega) (by omega), wrap64 (by omega) (by omega), wrap64 (by omega) (by omega), sb]
  congr 1
  rw [beq_iff_eq]
  omega
end Go.Proofs.Yteogljahemehkaa.PvGC1
