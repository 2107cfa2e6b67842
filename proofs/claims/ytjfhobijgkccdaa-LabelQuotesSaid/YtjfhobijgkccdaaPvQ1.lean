import Derived.Test.YtjfhobijgkccdaaPvT5
import Derived.Test.YtjfhobijgkccdaaPvPlain
set_option linter.unusedVariables false
set_option linter.unusedSimpArgs false
namespace Go.Proofs.Ytjfhobijgkccdaa.PvT5
open Go Go.Pv

theorem awake_true : f_pluviallaw10_awake.f = some true := by
  cbv

def esc (c : UInt8) : List UInt8 := if c = 10 then [92, 110] else if c = 34 ∨ c = 92 then [92, c] else [c]
def body (l : List UInt8) : List UInt8 := l.flatMap esc
theorem body_cons (c : UInt8) (l : List UInt8) : body (c :: l) = esc c ++ body l := by simp [body]
theorem esc_le (c : UInt8) : (esc c).length ≤ 2 := by unfold esc; split <;> (try split) <;> simp
theorem body_le : ∀ l : List UInt8, (body l).length ≤ 2 * l.length
  | [] => by simp [body]
  | c :: l => by rw [body_cons, List.length_append, List.length_cons]; have := esc_le c; have := body_le l; omega

theorem u8_eq {c : UInt8} {n : Nat} (hn : n < 256) : (((c.toNat : Int) == (n : Int)) = true) ↔ c = UInt8.ofNat n := by
  constructor
  · intro h
    have h' : (c.toNat : Int) = (n : Int) := by simpa using h
    apply UInt8.toNat_inj.1
    simp; omega
  · rintro rfl
    simp; omega

theorem wb2 {x : List Int} {c : Int} (h : x.length + 1 ≤ 100000) : f_strings_Builder_WriteByte_2.f x c = some (x ++ [c]) := by
  unfold f_strings_Builder_WriteByte_2.f f_strings_Builder_copyCheck_2.f
  rw [sb, chkB (by simp; omega)]
theorem ws {x : List Int} {s : ByteArray} (h : x.length + s.size ≤ 100000) : f_strings_Builder_WriteString.f x s = some (x ++ bytesL s) := by
  unfold f_strings_Builder_WriteString.f f_strings_Builder_copyCheck_2.f
  rw [sb, chkB (by omega)]

theorem quote_loop (s : ByteArray) (hs : s.size ≤ 1000) : ∀ (n i : Nat) (x : List Int), i + n = s.size → x.length + 2 * n ≤ 10000 →
    f_label_Quote.l0 s x (i : Int) = some (x ++ ints (body ((L s).drop i))) := by
  intro n
  induction n with
  | zero =>
    intro i x h hx
    rw [f_label_Quote.l0]
    have hd : (L s).drop i = [] := List.drop_eq_nil_of_le (by rw [size_L]; omega)
    rw [if_neg (by simp; omega), hd]
    simp [body, ints]
  | succ n ih =>
    intro i x h hx
    rw [f_label_Quote.l0]
    have hi : i < (L s).length := by rw [size_L]; omega
    have hbt : bt s (i : Int) = (((L s)[i]).toNat : Int) := bt_L (List.getElem?_eq_getElem hi)
    have hw : IntKind.i64.wrap ((i : Int) + 1) = ((i + 1 : Nat) : Int) := by rw [wrap64 (by omega) (by omega)]; omega
    rw [if_pos (by simp; omega), chkB (by omega), drop_cons hi, body_cons, hbt, hw]
    generalize (L s)[i] = c
    by_cases h10 : c = 10
    · subst h10
      rw [if_pos (by decide), ws (by show x.length + 2 ≤ _; omega), sb]
      show (_ >>= _) = _
      simp only [sb]
      rw [ih (i + 1) _ (by omega) (by rw [List.length_append]; show x.length + 2 + _ ≤ _; omega)]
      simp [esc, ints, bytesL]
    · have n10 : ¬ (((c.toNat : Int) == (10 : Int)) = true) := fun h => h10 ((u8_eq (n := 10) (by omega)).1 h)
      rw [if_neg n10]
      by_cases h34 : c = 34 ∨ c = 92
      · have hb : ((if (((c.toNat : Int)) == (34 : Int)) = true then (some (((c.toNat : Int)) == (34 : Int))) else (some (((c.toNat : Int)) == (92 : Int)))) : Option Bool) = some true := by
          rcases h34 with rfl | rfl <;> decide
        rw [hb, sb, if_pos rfl, wb2 (by omega), sb]
        simp only [sb]
        rw [wb2 (by simp; omega)]
        simp only [sb]
        rw [ih (i + 1) _ (by omega) (by simp; omega)]
        have he : esc c = [92, c] := by unfold esc; rw [if_neg h10, if_pos h34]
        rw [he]; simp [ints]
      · have hb : ((if (((c.toNat : Int)) == (34 : Int)) = true then (some (((c.toNat : Int)) == (34 : Int))) else (some (((c.toNat : Int)) == (92 : Int)))) : Option Bool) = some false := by
          have a1 : ¬ (((c.toNat : Int) == (34 : Int)) = true) := fun h => h34 (.inl ((u8_eq (n := 34) (by omega)).1 h))
          have a2 : ¬ (((c.toNat : Int) == (92 : Int)) = true) := fun h => h34 (.inr ((u8_eq (n := 92) (by omega)).1 h))
          rw [if_neg a1]; simp only [Bool.not_eq_true] at a2; rw [a2]
        rw [hb, sb, if_neg (by simp), sb]
        simp only
        rw [wb2 (by omega)]
        simp only [sb]
        rw [ih (i + 1) _ (by omega) (by simp; omega)]
        have he : esc c = [c] := by unfold esc; rw [if_neg h10, if_neg h34]
        rw [he]; simp [ints]

theorem quote_eq (s : ByteArray) (hs : s.size ≤ 1000) : f_label_Quote.f s = some ⟨(34 :: body (L s) ++ [34]).toArray⟩ := by
  unfold f_label_Quote.f
  have h1 : f_strings_Builder_WriteByte.f 34 = some [34] := by cbv
  have h2 := quote_loop s hs s.size 0 [34] (by omega) (by simp; omega)
  have hb := body_le (L s)
  rw [size_L] at hb
  have e : ([34] ++ ints (body ((L s).drop 0))) ++ [34] = ints (34 :: body (L s) ++ [34]) := by simp [ints]
  rw [h1, sb, show (0 : Int) = ((0 : Nat) : Int) from rfl, h2, sb, wb2 (by simp [ints]; omega), sb, e]
  have h3 : f_strings_Builder_String.f (ints (34 :: body (L s) ++ [34])) = some () := by
    unfold f_strings_Builder_String.f
    rw [chkB (by simp [ints]), chkB ⟨by simp [ints], by simp [ints]; omega, bytesOK_ints _⟩]
  rw [h3, sb, strOf_ints]

end Go.Proofs.Ytjfhobijgkccdaa.PvT5
