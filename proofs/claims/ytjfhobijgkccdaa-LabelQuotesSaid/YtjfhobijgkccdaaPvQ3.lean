import Derived.Test.YtjfhobijgkccdaaPvQ2
set_option linter.unusedVariables false
set_option linter.unusedSimpArgs false
namespace Go.Proofs.Ytjfhobijgkccdaa.PvT5
open Go Go.Pv

theorem le_body : ∀ l : List UInt8, l.length ≤ (body l).length
  | [] => by simp [body]
  | c :: l => by
    have h1 : 1 ≤ (esc c).length := by unfold esc; split <;> (try split) <;> simp
    rw [body_cons, List.length_append, List.length_cons]; have := le_body l; omega

/-- What Unquote gives. -/
def Unq (s : ByteArray) (a b : ByteArray) (ok : Bool) : Prop :=
  (∃ t m, L s = 34 :: body t ++ 34 :: m ∧ L a = t ∧ L b = m ∧ ok = true) ∨ (L a = [] ∧ L b = [] ∧ ok = false)

theorem unq_eq (s : ByteArray) (hs : s.size ≤ 10000) : ∃ a b ok, f_label_Unquote.f s = some (a, b, ok) ∧ Unq s a b ok ∧ (∀ r t m, L s = 34 :: r → U r [] = some (t, m) → L a = t ∧ L b = m ∧ ok = true) := by
  unfold f_label_Unquote.f
  by_cases h0 : s.size = 0
  · have hl : L s = [] := List.length_eq_zero_iff.1 (by rw [size_L]; exact h0)
    have : (s.toList == (⟨#[]⟩ : ByteArray).toList) = true := by rw [toList_L, toList_L, hl]; rfl
    rw [if_pos this, sb, if_pos rfl]
    exact ⟨_, _, _, rfl, .inr ⟨rfl, rfl, rfl⟩, fun r t m h => by rw [hl] at h; simp at h⟩
  · have hi : 0 < (L s).length := by rw [size_L]; omega
    have hne : ¬ ((s.toList == (⟨#[]⟩ : ByteArray).toList) = true) := by
      rw [toList_L, toList_L]
      intro h
      have h' : L s = [] := by simpa using h
      rw [h'] at hi; simp at hi
    have hbt : bt s 0 = (((L s)[0]).toNat : Int) := bt_L (i := 0) (List.getElem?_eq_getElem hi)
    have hd : L s = (L s)[0] :: (L s).drop 1 := by have := drop_cons hi; simpa using this
    rw [if_neg hne, chkB (by omega), hbt]
    simp only [sb]
    by_cases h34 : (L s)[0] = 34
    · rw [h34]
      rw [if_neg (by decide)]
      obtain ⟨o, h1, h2⟩ := unq_loop s hs s.size 1 [] (by omega) (by simp)
      have h1' : f_label_Unquote.l0 s [] 1 = some o := h1
      rw [h1', sb]
      rw [h34] at hd
      generalize hu : U ((L s).drop 1) [] = ur at h2
      cases ur with
      | none =>
        cases o with
        | inl p =>
          obtain ⟨a, b, ok⟩ := p
          exact ⟨a, b, ok, rfl, .inr h2, fun r t m h hU => by rw [hd] at h; simp only [List.cons.injEq, true_and] at h; rw [← h, hu] at hU; simp at hU⟩
        | inr _ => exact ⟨_, _, _, rfl, .inr ⟨rfl, rfl, rfl⟩, fun r t m h hU => by rw [hd] at h; simp only [List.cons.injEq, true_and] at h; rw [← h, hu] at hU; simp at hU⟩
      | some q =>
        obtain ⟨t, m⟩ := q
        cases o with
        | inl p =>
          obtain ⟨a, b, ok⟩ := p
          obtain ⟨g1, g2, g3⟩ := h2
          obtain ⟨u, e1, e2⟩ := U_back _ _ _ _ _ (Nat.le_refl _) hu
          refine ⟨a, b, ok, rfl, .inl ⟨t, m, ?_, g1, g2, g3⟩, fun r t' m' h hU => ?_⟩
          · rw [hd, e2]; simp at e1; rw [e1]; simp
          · rw [hd] at h; simp only [List.cons.injEq, true_and] at h; rw [← h, hu] at hU; simp at hU; obtain ⟨rfl, rfl⟩ := hU; exact ⟨g1, g2, g3⟩
        | inr _ => exact h2.elim
    · have hne' : (((((L s)[0]).toNat : Int)) != (34 : Int)) = true := by have := neq_u8 (n := 34) (by omega) h34; simp [bne]; simpa using this
      rw [if_pos hne']
      exact ⟨_, _, _, rfl, .inr ⟨rfl, rfl, rfl⟩, fun r t m h => by rw [hd] at h; simp only [List.cons.injEq] at h; exact absurd h.1 h34⟩

theorem beq_self_L {a b : ByteArray} (h : L a = L b) : (a.toList == b.toList) = true := by rw [toList_L, toList_L, h]; simp

theorem labelQuotes_true (a0 a1 : ByteArray) : f_pluviallaw10_LabelQuotes.f a0 a1 = some true := by
  unfold f_pluviallaw10_LabelQuotes.f
  by_cases h0 : a0.size > 1000
  · rw [if_pos (by simp; omega), sb, if_pos rfl, awake_true]; rfl
  rw [if_neg (by simp; omega)]
  by_cases h1 : a1.size > 1000
  · rw [sb, if_pos (by simp; omega), awake_true]; rfl
  rw [sb, if_neg (by simp; omega), quote_eq a0 (by omega), sb]
  have hb := body_le (L a0)
  rw [size_L] at hb
  generalize hq : (⟨(34 :: body (L a0) ++ [34]).toArray⟩ : ByteArray) = q
  have hqL : L q = 34 :: body (L a0) ++ [34] := by rw [← hq]
  have hqs : q.size = (body (L a0)).length + 2 := by rw [← size_L, hqL]; simp
  rw [chkB (by omega)]
  obtain ⟨t, rest, ok, e1, _, e3⟩ := unq_eq (q ++ a1) (by rw [ByteArray.size_append]; omega)
  obtain ⟨g1, g2, g3⟩ := e3 (body (L a0) ++ 34 :: L a1) (L a0) (L a1) (by rw [L_append, hqL]; simp) (by rw [U_body]; simp)
  rw [e1, sb, ref_eq a0 (by omega), hq]
  simp only [sb, g3, beq_self_L rfl, beq_self_L g1, beq_self_L g2, Bool.not_true, Bool.false_eq_true, if_false]
  obtain ⟨u, left, is, f1, f2, _⟩ := unq_eq a1 (by omega)
  rw [f1]
  simp only [sb, awake_true, if_true]
  rcases f2 with ⟨t', m', k1, k2, k3, rfl⟩ | ⟨k1, k2, rfl⟩
  · have hl := le_body t'
    have hlen : (L a1).length = (body t').length + m'.length + 2 := by rw [k1]; simp; omega
    rw [size_L] at hlen
    have hus : u.size = t'.length := by rw [← size_L, k2]
    have hls : left.size = m'.length := by rw [← size_L, k3]
    have hb' := body_le t'
    generalize hq' : (⟨(34 :: body (L u) ++ [34]).toArray⟩ : ByteArray) = q'
    have hqL' : L q' = 34 :: body (L u) ++ [34] := by rw [← hq']
    have hqs' : q'.size = (body t').length + 2 := by rw [← size_L, hqL', k2]; simp
    have hfin : ((q' ++ left).toList == a1.toList) = true := beq_self_L (by rw [L_append, hqL', k2, k3, k1]; simp)
    rw [ref_eq u (by omega), hq']
    simp only [Bool.not_true, Bool.false_eq_true, if_false, if_true, sb]
    rw [chkB (by omega), hfin]
    rfl
  · have hu : (u.toList == (⟨#[]⟩ : ByteArray).toList) = true := beq_self_L (by rw [k1])
    have hl : (left.toList == (⟨#[]⟩ : ByteArray).toList) = true := beq_self_L (by rw [k2])
    simp only [hu, hl, Bool.not_false, if_true, sb]

#print axioms labelQuotes_true
end Go.Proofs.Ytjfhobijgkccdaa.PvT5
