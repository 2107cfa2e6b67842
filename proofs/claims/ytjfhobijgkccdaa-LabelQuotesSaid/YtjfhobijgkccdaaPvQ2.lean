import Derived.Test.YtjfhobijgkccdaaPvQ1
set_option linter.unusedVariables false
set_option linter.unusedSimpArgs false
namespace Go.Proofs.Ytjfhobijgkccdaa.PvT5
open Go Go.Pv

theorem if34 {c : UInt8} {b : Bool} (hb : b = decide (c = 34 ∨ c = 92)) : ((if (((c.toNat : Int)) == (34 : Int)) = true then (some true) else (some (((c.toNat : Int)) == (92 : Int)))) : Option Bool) = some b := by
  subst hb
  by_cases h : c = 34
  · subst h; decide
  · have n34 : ¬ (((c.toNat : Int) == (34 : Int)) = true) := fun h' => h ((u8_eq (n := 34) (by omega)).1 h')
    rw [if_neg n34]
    by_cases h2 : c = 92
    · subst h2; decide
    · have : ¬ (((c.toNat : Int) == (92 : Int)) = true) := fun h' => h2 ((u8_eq (n := 92) (by omega)).1 h')
      simp only [Bool.not_eq_true] at this
      rw [this]; simp [h, h2]

theorem ref_loop (s : ByteArray) (hs : s.size ≤ 1000) : ∀ (n i : Nat) (x : ByteArray), i + n = s.size → x.size + 2 * n ≤ 10000 →
    ∃ r, f_pluvialref10_Quote.l0 s x (i : Int) = some r ∧ L r = L x ++ body ((L s).drop i) := by
  intro n
  induction n with
  | zero =>
    intro i x h hx
    rw [f_pluvialref10_Quote.l0]
    have hd : (L s).drop i = [] := List.drop_eq_nil_of_le (by rw [size_L]; omega)
    rw [if_neg (by simp; omega), hd]
    exact ⟨x, rfl, by simp [body]⟩
  | succ n ih =>
    intro i x h hx
    rw [f_pluvialref10_Quote.l0]
    have hi : i < (L s).length := by rw [size_L]; omega
    have hbt : bt s (i : Int) = (((L s)[i]).toNat : Int) := bt_L (List.getElem?_eq_getElem hi)
    have hw : IntKind.i64.wrap ((i : Int) + 1) = ((i + 1 : Nat) : Int) := by rw [wrap64 (by omega) (by omega)]; omega
    have hex : L (s.extract (Int.toNat (i : Int)) (Int.toNat ((i + 1 : Nat) : Int))) = [(L s)[i]] := by
      rw [L_extract]
      simp only [Int.toNat_natCast]
      rw [drop_cons hi]; simp
    have hexs : (s.extract (Int.toNat (i : Int)) (Int.toNat ((i + 1 : Nat) : Int))).size = 1 := by rw [← size_L, hex]; rfl
    rw [if_pos (by simp; omega), chkB (by omega), drop_cons hi, body_cons, hbt, hw]
    generalize s.extract (Int.toNat (i : Int)) (Int.toNat ((i + 1 : Nat) : Int)) = ex at hex hexs
    generalize (L s)[i] = c at *
    by_cases h10 : c = 10
    · subst h10
      rw [if_pos (by decide), chkB (by have : (⟨#[92, 110]⟩ : ByteArray).size = 2 := rfl; rw [this]; omega)]
      simp only [sb]
      obtain ⟨r, h1, h2⟩ := ih (i + 1) (x ++ ⟨#[92, 110]⟩) (by omega) (by rw [ByteArray.size_append]; show x.size + 2 + _ ≤ _; omega)
      exact ⟨r, h1, by rw [h2, L_append]; simp [esc, L_mk]⟩
    · have n10 : ¬ (((c.toNat : Int) == (10 : Int)) = true) := fun h => h10 ((u8_eq (n := 10) (by omega)).1 h)
      rw [if_neg n10]
      by_cases h34 : c = 34 ∨ c = 92
      · rw [if34 (b := true) (by simp [h34]), sb, if_pos rfl, chkB (by have : (⟨#[92]⟩ : ByteArray).size = 1 := rfl; rw [this]; omega)]
        simp only [sb]
        have hsz : (x ++ (⟨#[92]⟩ : ByteArray)).size = x.size + 1 := by rw [ByteArray.size_append]; rfl
        rw [chkB (by omega), chkB (by rw [hsz, hexs]; omega)]
        simp only [sb]
        obtain ⟨r, h1, h2⟩ := ih (i + 1) (x ++ ⟨#[92]⟩ ++ ex) (by omega) (by rw [ByteArray.size_append, hsz, hexs]; omega)
        refine ⟨r, h1, ?_⟩
        have he : esc c = [92, c] := by unfold esc; rw [if_neg h10, if_pos h34]
        rw [h2, L_append, L_append, hex, he]; simp [L_mk]
      · rw [if34 (b := false) (by simp [h34]), sb, if_neg (by simp)]
        simp only [sb]
        rw [chkB (by omega), chkB (by rw [hexs]; omega)]
        simp only [sb]
        obtain ⟨r, h1, h2⟩ := ih (i + 1) (x ++ ex) (by omega) (by rw [ByteArray.size_append, hexs]; omega)
        refine ⟨r, h1, ?_⟩
        have he : esc c = [c] := by unfold esc; rw [if_neg h10, if_neg h34]
        rw [h2, L_append, hex, he]; simp

theorem ref_eq (s : ByteArray) (hs : s.size ≤ 1000) : f_pluvialref10_Quote.f s = some ⟨(34 :: body (L s) ++ [34]).toArray⟩ := by
  unfold f_pluvialref10_Quote.f
  obtain ⟨r, h1, h2⟩ := ref_loop s hs s.size 0 ⟨#[34]⟩ (by omega) (by show 1 + _ ≤ _; omega)
  have hb := body_le (L s)
  rw [size_L] at hb
  have hr : r.size = 1 + (body (L s)).length := by rw [← size_L, h2]; simp
  rw [show (0 : Int) = ((0 : Nat) : Int) from rfl, h1, sb, chkB (by have : (⟨#[34]⟩ : ByteArray).size = 1 := rfl; rw [hr, this]; omega)]
  congr 1
  apply ext_L
  rw [L_append, h2]; simp [L_mk]

/-! ### What is read -/
def U : List UInt8 → List UInt8 → Option (List UInt8 × List UInt8)
  | [], _ => none
  | c :: r, acc => if c = 34 then some (acc, r) else if c = 10 then none else if c ≠ 92 then U r (acc ++ [c]) else
    match r with
    | [] => none
    | d :: r => if d = 110 then U r (acc ++ [10]) else if d = 34 ∨ d = 92 then U r (acc ++ [d]) else none

theorem U_34 (r acc : List UInt8) : U (34 :: r) acc = some (acc, r) := by rw [U.eq_def]; simp
theorem U_10 (r acc : List UInt8) : U (10 :: r) acc = none := by rw [U.eq_def]; simp
theorem U_c {c : UInt8} (h1 : c ≠ 34) (h2 : c ≠ 10) (h3 : c ≠ 92) (r acc : List UInt8) : U (c :: r) acc = U r (acc ++ [c]) := by rw [U.eq_def]; simp [h1, h2, h3]
theorem U_92 (acc : List UInt8) : U [92] acc = none := by rw [U.eq_def]; simp
theorem U_92n (r acc : List UInt8) : U (92 :: 110 :: r) acc = U r (acc ++ [10]) := by rw [U.eq_def]; simp
theorem U_92c {d : UInt8} (h : d = 34 ∨ d = 92) (r acc : List UInt8) : U (92 :: d :: r) acc = U r (acc ++ [d]) := by
  rw [U.eq_def]
  have : d ≠ 110 := by rintro rfl; revert h; decide
  simp [this, h]
theorem U_92x {d : UInt8} (h0 : d ≠ 110) (h : ¬ (d = 34 ∨ d = 92)) (r acc : List UInt8) : U (92 :: d :: r) acc = none := by
  rw [U.eq_def]
  simp [h0, h]

theorem U_body : ∀ (l acc m : List UInt8), U (body l ++ 34 :: m) acc = some (acc ++ l, m) := by
  intro l
  induction l with
  | nil => intro acc m; show U (34 :: m) acc = _; rw [U_34]; simp
  | cons c l ih =>
    intro acc m
    rw [body_cons, List.append_assoc]
    unfold esc
    split
    · rename_i h; subst h
      simp only [List.cons_append, List.nil_append]
      rw [U_92n, ih]; simp
    · split
      · rename_i h10 h
        simp only [List.cons_append, List.nil_append]
        rw [U_92c h, ih]; simp
      · rename_i h10 h
        simp only [List.cons_append, List.nil_append]
        rw [U_c (fun e => h (.inl e)) h10 (fun e => h (.inr e)), ih]; simp

theorem U_back : ∀ (n : Nat) (l acc t m : List UInt8), l.length ≤ n → U l acc = some (t, m) → ∃ u, t = acc ++ u ∧ l = body u ++ 34 :: m := by
  intro n
  induction n with
  | zero =>
    intro l acc t m hn h
    obtain rfl : l = [] := List.length_eq_zero_iff.1 (by omega)
    simp [U] at h
  | succ n ih =>
    intro l acc t m hn h
    cases l with
    | nil => simp [U] at h
    | cons c r =>
      simp only [List.length_cons] at hn
      by_cases h34 : c = 34
      · subst h34; rw [U_34] at h; simp at h; obtain ⟨rfl, rfl⟩ := h; exact ⟨[], by simp, by simp [body]⟩
      by_cases h10 : c = 10
      · subst h10; rw [U_10] at h; simp at h
      by_cases h92 : c = 92
      · subst h92
        cases r with
        | nil => rw [U_92] at h; simp at h
        | cons d r =>
          simp only [List.length_cons] at hn
          by_cases h110 : d = 110
          · subst h110
            rw [U_92n] at h
            obtain ⟨u, e1, e2⟩ := ih r _ t m (by omega) h
            exact ⟨10 :: u, by rw [e1]; simp, by rw [body_cons, e2]; simp [esc]⟩
          by_cases hd : d = 34 ∨ d = 92
          · rw [U_92c hd] at h
            obtain ⟨u, e1, e2⟩ := ih r _ t m (by omega) h
            have hd10 : d ≠ 10 := by rintro rfl; revert hd; decide
            have he : esc d = [92, d] := by unfold esc; rw [if_neg hd10, if_pos hd]
            exact ⟨d :: u, by rw [e1]; simp, by rw [body_cons, e2, he]; simp⟩
          · rw [U_92x h110 hd] at h; simp at h
      · rw [U_c h34 h10 h92] at h
        obtain ⟨u, e1, e2⟩ := ih r _ t m (by omega) h
        have he : esc c = [c] := by unfold esc; rw [if_neg h10, if_neg (fun h => h.elim h34 h92)]
        exact ⟨c :: u, by rw [e1]; simp, by rw [body_cons, e2, he]; simp⟩

/-! ### The loop of Unquote -/
theorem neq_u8 {c : UInt8} {n : Nat} (hn : n < 256) (h : c ≠ UInt8.ofNat n) : ((c.toNat : Int) == (n : Int)) = false := by
  cases e : ((c.toNat : Int) == (n : Int)) with
  | false => rfl
  | true => exact absurd ((u8_eq hn).1 e) h

/-- How an end reads. -/
def got (s : ByteArray) : Option (List UInt8 × List UInt8) → (ByteArray × ByteArray × Bool) ⊕ Unit → Prop
  | some (t, m), .inl (a, b, ok) => L a = t ∧ L b = m ∧ ok = true
  | none, .inl (a, b, ok) => L a = [] ∧ L b = [] ∧ ok = false
  | none, .inr _ => True
  | some _, .inr _ => False

theorem unq_loop (s : ByteArray) (hs : s.size ≤ 10000) : ∀ (n i : Nat) (acc : List UInt8), s.size - i ≤ n → acc.length ≤ 10000 + i →
    ∃ o, f_label_Unquote.l0 s (ints acc) (i : Int) = some o ∧ got s (U ((L s).drop i) acc) o := by
  intro n
  induction n with
  | zero =>
    intro i acc h hx
    rw [f_label_Unquote.l0]
    have hd : (L s).drop i = [] := List.drop_eq_nil_of_le (by rw [size_L]; omega)
    rw [if_neg (by simp; omega), hd]
    exact ⟨_, rfl, by simp [U, got]⟩
  | succ n ih =>
    intro i acc h hx
    by_cases hlt : i < s.size
    case neg =>
      rw [f_label_Unquote.l0]
      have hd : (L s).drop i = [] := List.drop_eq_nil_of_le (by rw [size_L]; omega)
      rw [if_neg (by simp; omega), hd]
      exact ⟨_, rfl, by simp [U, got]⟩
    rw [f_label_Unquote.l0]
    have hi : i < (L s).length := by rw [size_L]; omega
    have hbt : bt s (i : Int) = (((L s)[i]).toNat : Int) := bt_L (List.getElem?_eq_getElem hi)
    have hw : IntKind.i64.wrap ((i : Int) + 1) = ((i + 1 : Nat) : Int) := by rw [wrap64 (by omega) (by omega)]; omega
    have hrest : L (s.extract (Int.toNat ((i + 1 : Nat) : Int)) (Int.toNat (s.size : Int))) = (L s).drop (i + 1) := by
      rw [L_extract]; simp only [Int.toNat_natCast]
      rw [List.take_of_length_le (by simp [size_L])]
    have hil : (ints acc).length = acc.length := by simp [ints]
    rw [if_pos (by simp; omega), chkB (by omega), drop_cons hi, hbt, hw]
    have hstep : ∀ (k : Nat) (acc2 : List UInt8), i < k → acc2.length ≤ 10000 + k → ∃ o, f_label_Unquote.l0 s (ints acc2) (k : Int) = some o ∧ got s (U ((L s).drop k) acc2) o := fun k acc2 hk h2 => ih k acc2 (by omega) h2
    generalize hc : (L s)[i] = c at *
    by_cases h34 : c = 34
    · subst h34
      rw [if_pos (by decide), chkB (by omega)]
      refine ⟨_, rfl, ?_⟩
      rw [U_34]
      exact ⟨by rw [L_strOf], hrest, rfl⟩
    have e34 : ¬ (((c.toNat : Int) == (34 : Int)) = true) := fun h => h34 ((u8_eq (n := 34) (by omega)).1 h)
    rw [if_neg e34]
    by_cases h10 : c = 10
    · subst h10
      rw [if_pos (by decide), U_10]
      exact ⟨_, rfl, rfl, rfl, rfl⟩
    have e10 : ¬ (((c.toNat : Int) == (10 : Int)) = true) := fun h => h10 ((u8_eq (n := 10) (by omega)).1 h)
    rw [if_neg e10]
    by_cases h92 : c = 92
    case neg =>
      have e92 : ((c.toNat : Int) != (92 : Int)) = true := by have := neq_u8 (n := 92) (by omega) h92; simp [bne]; simpa using this
      rw [if_pos e92, chkB (by rw [hil]; simp; omega)]
      simp only [sb]
      rw [U_c h34 h10 h92, show ints acc ++ [(c.toNat : Int)] = ints (acc ++ [c]) from by simp [ints], hw]
      exact hstep (i + 1) _ (by omega) (by simp; omega)
    subst h92
    rw [if_neg (by decide)]
    by_cases hend : i + 1 = s.size
    · rw [if_pos (by rw [hend]; simp)]
      have hd : (L s).drop (i + 1) = [] := List.drop_eq_nil_of_le (by rw [size_L]; omega)
      rw [hd, U_92]
      exact ⟨_, rfl, rfl, rfl, rfl⟩
    have hi1 : i + 1 < (L s).length := by rw [size_L]; omega
    have hbt1 : bt s ((i + 1 : Nat) : Int) = (((L s)[i + 1]).toNat : Int) := bt_L (List.getElem?_eq_getElem hi1)
    have hw1 : IntKind.i64.wrap (((i + 1 : Nat) : Int) + 1) = ((i + 2 : Nat) : Int) := by rw [wrap64 (by omega) (by omega)]; omega
    rw [if_neg (by simp; omega), chkB (by omega), drop_cons hi1, hbt1]
    generalize (L s)[i + 1] = d at *
    by_cases h110 : d = 110
    · subst h110
      rw [if_pos (by decide), chkB (by rw [hil]; simp; omega)]
      simp only [sb]
      rw [U_92n, show ints acc ++ [10] = ints (acc ++ [10]) from by simp [ints], hw1]
      exact hstep (i + 2) _ (by omega) (by simp; omega)
    have e110 : ¬ (((d.toNat : Int) == (110 : Int)) = true) := fun h => h110 ((u8_eq (n := 110) (by omega)).1 h)
    rw [if_neg e110]
    by_cases hd : d = 34 ∨ d = 92
    · rw [if34 (b := true) (by simp [hd]), sb, if_pos rfl, chkB (by rw [hil]; simp; omega)]
      simp only [sb]
      rw [U_92c hd, show ints acc ++ [(d.toNat : Int)] = ints (acc ++ [d]) from by simp [ints], hw1]
      exact hstep (i + 2) _ (by omega) (by simp; omega)
    · rw [if34 (b := false) (by simp [hd]), sb, if_neg (by simp)]
      rw [U_92x h110 hd]
      exact ⟨_, rfl, rfl, rfl, rfl⟩

end Go.Proofs.Ytjfhobijgkccdaa.PvT5
