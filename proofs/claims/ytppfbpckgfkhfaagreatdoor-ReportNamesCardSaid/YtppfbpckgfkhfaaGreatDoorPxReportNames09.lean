import Derived.Test.YtppfbpckgfkhfaaGreatDoorPxReportNames08
set_option linter.unusedVariables false
set_option linter.unusedSimpArgs false
namespace Go.Proofs.YtppfbpckgfkhfaaGreatDoor.PvGO
open Go Go.Pv
def wordR (n : Int) : ByteArray := if 0 ≤ n ∧ n ≤ 12 then gt0.getD n.toNat ⟨#[]⟩ else if 20 ≤ n ∧ n ≤ 32 then gt1.getD (n - 20).toNat ⟨#[]⟩ else ⟨#[111, 116, 104, 101, 114]⟩
def isR (n : Int) : Bool := decide ((0 ≤ n ∧ n ≤ 12) ∨ (20 ≤ n ∧ n ≤ 32))
theorem at_get {l : List ByteArray} {i : Int} (h0 : 0 ≤ i) (h1 : i < l.length) : at? l i = some (l.getD i.toNat ⟨#[]⟩) := by
  unfold at?
  have : i.toNat < l.length := by omega
  simp [h0, this, List.getD_eq_getElem?_getD]
theorem error_R (n : Int) (hn : I64 n) : f_report_Error.f n = some (wordR n) := by
  obtain ⟨h1, h2⟩ := hn
  unfold f_report_Error.f wordR
  have hl0 : gt0.length = 13 := rfl
  have hl1 : gt1.length = 13 := rfl
  by_cases a : 0 ≤ n ∧ n ≤ 12
  · rw [if_pos a, at_get a.1 (by omega)]
    have : n < 13 := by omega
    simp [a.1, this]
  · rw [if_neg a]
    by_cases b : 20 ≤ n ∧ n ≤ 32
    · have hw : IntKind.i64.wrap (n - 20) = n - 20 := wrap64 (by omega) (by omega)
      have g1 : (0 : Int) ≤ n := by omega
      have g2 : ¬ n < 13 := by omega
      have g3 : n - 20 < 13 := by omega
      rw [if_pos b, hw, at_get (l := gt1) (i := n - 20) (by omega) (by omega)]
      simp [g1, g2, b.1, g3]
    · rw [if_neg b]
      have g4 : ¬ (20 ≤ n ∧ n - 20 < 13) := by omega
      by_cases c : 20 ≤ n
      · have hw : IntKind.i64.wrap (n - 20) = n - 20 := wrap64 (by omega) (by omega)
        have g3 : ¬ n - 20 < 13 := by omega
        have g1 : (0 : Int) ≤ n := by omega
        have g2 : ¬ n < 13 := by omega
        simp [g1, g2, c, hw, g3]
      · by_cases d : 0 ≤ n
        · have g2 : ¬ n < 13 := by omega
          simp [d, g2, c]
        · simp [d, c]
theorem isName_R (n : Int) : f_pluviallaw26_ReportNames_1.f n = some (isR n) := by
  unfold f_pluviallaw26_ReportNames_1.f isR
  by_cases a : 0 ≤ n <;> by_cases b : n ≤ 12 <;> by_cases c : 20 ≤ n <;> by_cases d : n ≤ 32 <;> simp [a, b, c, d]
theorem words_inj : ∀ (i j : Fin 26), (gt0 ++ gt1).getD i.val ⟨#[]⟩ = (gt0 ++ gt1).getD j.val ⟨#[]⟩ → i = j := by decide +kernel
theorem words_ok : ∀ (i : Fin 26), (gt0 ++ gt1).getD i.val ⟨#[]⟩ ≠ ⟨#[111, 116, 104, 101, 114]⟩ ∧ (gt0 ++ gt1).getD i.val ⟨#[]⟩ ≠ ⟨#[]⟩ := by decide +kernel
theorem word_place (n : Int) (h : isR n = true) : ∃ i : Fin 26, wordR n = (gt0 ++ gt1).getD i.val ⟨#[]⟩ ∧ n = if i.val < 13 then (i.val : Int) else (i.val : Int) + 7 := by
  unfold isR at h
  have h := of_decide_eq_true h
  unfold wordR
  have hl0 : gt0.length = 13 := rfl
  by_cases a : 0 ≤ n ∧ n ≤ 12
  · refine ⟨⟨n.toNat, by omega⟩, ?_, ?_⟩
    · rw [if_pos a, List.getD_eq_getElem?_getD, List.getD_eq_getElem?_getD, List.getElem?_append_left (by show n.toNat < _; omega)]
    · show n = if n.toNat < 13 then _ else _
      rw [if_pos (by omega)]; show n = (n.toNat : Int); omega
  · have b : 20 ≤ n ∧ n ≤ 32 := by omega
    refine ⟨⟨n.toNat - 7, by omega⟩, ?_, ?_⟩
    · rw [if_neg a, if_pos b, List.getD_eq_getElem?_getD, List.getD_eq_getElem?_getD, List.getElem?_append_right (by show _ ≤ n.toNat - 7; omega)]
      congr 2
      show (n - 20).toNat = n.toNat - 7 - 13; omega
    · show n = if n.toNat - 7 < 13 then _ else _
      rw [if_neg (by omega)]; show n = ((n.toNat - 7 : Nat) : Int) + 7; omega
theorem word_inj (a b : Int) (ha : isR a = true) (hb : isR b = true) : wordR a = wordR b ↔ a = b := by
  obtain ⟨i, e1, e2⟩ := word_place a ha
  obtain ⟨j, g1, g2⟩ := word_place b hb
  constructor
  · intro h
    rw [e1, g1] at h
    have := words_inj i j h
    subst this; rw [e2, g2]
  · rintro rfl; rfl
theorem word_some (a : Int) (ha : isR a = true) : wordR a ≠ ⟨#[111, 116, 104, 101, 114]⟩ ∧ wordR a ≠ ⟨#[]⟩ := by
  obtain ⟨i, e1, _⟩ := word_place a ha
  rw [e1]; exact words_ok i
theorem word_none (a : Int) (ha : isR a = false) : wordR a = ⟨#[111, 116, 104, 101, 114]⟩ := by
  have h := of_decide_eq_false ha
  unfold wordR
  rw [if_neg (fun h' => h (.inl h')), if_neg (fun h' => h (.inr h'))]
theorem bl_beq (x y : ByteArray) : (x.toList == y.toList) = decide (x = y) := by
  rw [toList_L, toList_L]
  by_cases h : x = y
  · subst h; simp
  · have : L x ≠ L y := fun e => h (by rw [← mk_L x, ← mk_L y, e])
    rw [decide_eq_false h]
    simpa using this
theorem reportNames_R (a b : Int) (ha : I64 a) (hb : I64 b) : f_pluviallaw26_ReportNames.f a b = some true := by
  unfold f_pluviallaw26_ReportNames.f f_pluviallaw26_awake.f
  rw [error_R a ha, error_R b hb]
  simp only [isName_R, Option.bind_some, Option.bind_eq_bind, bl_beq]
  cases ea : isR a <;> cases eb : isR b
  · simp [word_none a ea, word_none b eb]
  · simp [word_none a ea]
  · simp [word_none b eb]
  · have h1 := word_inj a b ea eb
    obtain ⟨h2, h3⟩ := word_some a ea
    by_cases c : a = b
    · simp [h1, c, h2, h3]
      subst c; simp [h2, h3]
    · simp [h1, c, h2, h3]
end Go.Proofs.YtppfbpckgfkhfaaGreatDoor.PvGO
