import Derived.Test.YtjfhobijgkccdaaPxLabelMakes11
set_option linter.unusedVariables false
set_option linter.unusedSimpArgs false
namespace Go.Proofs.Ytjfhobijgkccdaa.PvGA1
open Go Go.Pv Go.Pv.GS
theorem awake10 : f_pluviallaw10_awake.f = some true := by cbv
theorem light_ex (l : List TLabel) (hl : l.length < 10000000000000) : ∀ (m : Nat) (n i : Int), i = ((l.length - m : Nat) : Int) → m ≤ l.length → ∃ r, f_pluviallaw10_Light.l0 l n i = some r := by
  intro m
  induction m with
  | zero => intro n i hi hm; rw [f_pluviallaw10_Light.l0, if_neg (by simp; omega)]; exact ⟨n, rfl⟩
  | succ m ih =>
    intro n i hi hm
    rw [f_pluviallaw10_Light.l0, if_pos (by simp; omega), at_nat (k := l.length - (m + 1)) hi (List.getElem?_eq_getElem (by omega)), sb, wrap64 (n := i + 1) (by omega) (by omega)]
    exact ih _ _ (by omega) (by omega)
theorem light10 (l : List TLabel) (hl : l.length < 10000000000000) : ∃ b, f_pluviallaw10_Light.f l = some b := by
  unfold f_pluviallaw10_Light.f
  obtain ⟨r, e⟩ := light_ex l hl l.length 0 0 (by omega) (by omega)
  rw [e, sb]; exact ⟨_, rfl⟩
def memB (s : ByteArray) : List ByteArray → Bool
  | [] => false
  | y :: l => decide (s = y) || memB s l
theorem contains_l0 (l : List ByteArray) (s : ByteArray) (hl : l.length < 10000000000000) : ∀ (suf pre : List ByteArray) (i : Int), l = pre ++ suf → i = (pre.length : Int) →
    (memB s suf = false ∧ f_slices_Index_string.l0 l s i = some (.inr ())) ∨ (memB s suf = true ∧ ∃ k : Int, 0 ≤ k ∧ f_slices_Index_string.l0 l s i = some (.inl k)) := by
  intro suf
  induction suf with
  | nil => intro pre i h1 hi; rw [f_slices_Index_string.l0, if_neg (by rw [h1]; simp [hi])]; exact .inl ⟨rfl, rfl⟩
  | cons x suf ih =>
    intro pre i h1 hi
    have hlen : l.length = pre.length + (suf.length + 1) := by rw [h1]; simp
    rw [f_slices_Index_string.l0, if_pos (by simp; omega), at_mid h1 hi, sb, eqB, wrap64 (by omega) (by omega)]
    by_cases e : s = x
    · rw [if_pos (by simpa using e)]
      exact .inr ⟨by simp [memB, e], i, by omega, rfl⟩
    · rw [if_neg (by simpa using e)]
      rcases ih (pre ++ [x]) (i + 1) (by simp [h1]) (by simp; omega) with ⟨q1, q2⟩ | ⟨q1, q2⟩
      · exact .inl ⟨by simp [memB, e, q1], q2⟩
      · exact .inr ⟨by simp [memB, q1], q2⟩
theorem contains (l : List ByteArray) (s : ByteArray) (hl : l.length < 10000000000000) : f_slices_Contains_string.f l s = some (memB s l) := by
  unfold f_slices_Contains_string.f f_slices_Index_string.f
  rcases contains_l0 l s hl l [] 0 rfl rfl with ⟨q1, q2⟩ | ⟨q1, k, h0, q2⟩
  · rw [q2, sb, sb]; simp [q1]
  · rw [q2, sb, sb]; simp [q1, h0]
theorem by_inst (l : List TLabel) (c : List ByteArray) : f_slices_DeleteFunc_api_Label_label_By_1_375.f l c = deleteF.f (fun x => f_label_By_1_2c7.f x c) (⟨(⟨#[]⟩ : ByteArray), (⟨#[]⟩ : ByteArray)⟩ : TLabel) l := by kernel_rfl
theorem lby (l : List TLabel) (h : Fit l) (c : List ByteArray) (hc : c.length < 10000000000000) : f_label_By.f l c = some (l.filter fun x => memB x.f0 c) := by
  have hl : l.length < 10000000000000 := by unfold Fit at h; omega
  unfold f_label_By.f
  rw [clone_l l h, sb, by_inst, deleteF_eq (p := fun x => !memB x.f0 c) (fun x => by unfold f_label_By_1_2c7.f; rw [contains c _ hc, sb]) _ _ hl, sb]
  simp
theorem by_l1 (l : List TLabel) (c : List ByteArray) (x : TLabel) (o : List TLabel) (j : Int) (hc : c.length < 1000) : ∀ (suf pre : List ByteArray) (b : Bool) (i : Int), c = pre ++ suf → i = (pre.length : Int) →
    f_pluviallaw10_LabelMakes.l1 l c x o j b i = some (b || memB x.f0 suf) := by
  intro suf
  induction suf with
  | nil => intro pre b i h1 hi; rw [f_pluviallaw10_LabelMakes.l1, if_neg (by rw [h1]; simp [hi])]; simp [memB]
  | cons y suf ih =>
    intro pre b i h1 hi
    have hlen : c.length = pre.length + (suf.length + 1) := by rw [h1]; simp
    have hb : ((if b = true then (some true) else (some (y.toList == x.f0.toList))) : Option Bool) = some (b || decide (x.f0 = y)) := by
      rw [eqB]
      cases b
      · rw [if_neg (by simp), Bool.false_or]
        by_cases e : x.f0 = y
        · simp [e]
        · have e' : ¬ y = x.f0 := fun q => e q.symm
          simp [e, e']
      · rw [if_pos rfl]; rfl
    rw [f_pluviallaw10_LabelMakes.l1, if_pos (by simp; omega), at_mid h1 hi, sb, hb, sb, wrap64 (by omega) (by omega), ih (pre ++ [y]) _ (i + 1) (by simp [h1]) (by simp; omega)]
    by_cases e : x.f0 = y <;> simp [memB, e]
theorem by_l0 (l : List TLabel) (h : Fit l) (c : List ByteArray) (hc : c.length < 1000) : ∀ (suf pre : List TLabel) (i : Int), l = pre ++ suf → i = (pre.length : Int) →
    f_pluviallaw10_LabelMakes.l0 l c (pre.filter fun x => memB x.f0 c) i = some (l.filter fun x => memB x.f0 c) := by
  intro suf
  unfold Fit at h
  induction suf with
  | nil => intro pre i h1 hi; rw [f_pluviallaw10_LabelMakes.l0, if_neg (by rw [h1]; simp [hi]), h1, List.append_nil]
  | cons x suf ih =>
    intro pre i h1 hi
    have hlen : l.length = pre.length + (suf.length + 1) := by rw [h1]; simp
    have hf : (pre.filter fun x => memB x.f0 c).length ≤ pre.length := List.length_filter_le ..
    have next := ih (pre ++ [x]) (i + 1) (by simp [h1]) (by simp; omega)
    rw [List.filter_append] at next
    rw [f_pluviallaw10_LabelMakes.l0, if_pos (by simp; omega), at_mid h1 hi, sb, by_l1 l c x _ i hc c [] false 0 rfl rfl, sb, Bool.false_or, wrap64 (by omega) (by omega)]
    cases e : memB x.f0 c
    · rw [if_neg (by simp), sb]
      simpa [e] using next
    · rw [if_pos rfl, chkB (by simp only [List.length_singleton]; omega), sb]
      simpa [e] using next
def getV : List TLabel → ByteArray → ByteArray
  | [], _ => (⟨#[]⟩ : ByteArray)
  | x :: l, s => if x.f0 = s then x.f1 else getV l s
theorem get_l0 (l : List TLabel) (s : ByteArray) (hl : l.length < 10000000000000) : ∀ (suf pre : List TLabel) (i : Int), l = pre ++ suf → i = (pre.length : Int) →
    (f_label_Get.l0 l s i = some (.inr ()) ∧ getV suf s = (⟨#[]⟩ : ByteArray)) ∨ f_label_Get.l0 l s i = some (.inl (getV suf s)) := by
  intro suf
  induction suf with
  | nil => intro pre i h1 hi; rw [f_label_Get.l0, if_neg (by rw [h1]; simp [hi])]; exact .inl ⟨rfl, rfl⟩
  | cons x suf ih =>
    intro pre i h1 hi
    have hlen : l.length = pre.length + (suf.length + 1) := by rw [h1]; simp
    rw [f_label_Get.l0, if_pos (by simp; omega), at_mid h1 hi, sb, eqB, wrap64 (by omega) (by omega), getV]
    by_cases e : x.f0 = s
    · rw [if_pos (by simpa using e), if_pos e]; exact .inr rfl
    · rw [if_neg (by simpa using e), if_neg e]
      exact ih (pre ++ [x]) (i + 1) (by simp [h1]) (by simp; omega)
theorem lget (l : List TLabel) (s : ByteArray) (hl : l.length < 10000000000000) : f_label_Get.f l s = some (getV l s) := by
  unfold f_label_Get.f
  rcases get_l0 l s hl l [] 0 rfl rfl with ⟨q1, q2⟩ | q1
  · rw [q1, sb, q2]
  · rw [q1, sb]
theorem get_l3 (l : List TLabel) (c : List ByteArray) (s : ByteArray) (o : List TLabel) (j : Int) (hl : l.length < 10000000000000) : ∀ (m : Nat) (pre suf : List TLabel) (i : Int), pre.length = m → l = pre ++ suf → i = (pre.length : Int) - 1 →
    f_pluviallaw10_LabelMakes.l3 l c s o j (getV suf s) i = some (getV l s) := by
  intro m
  induction m with
  | zero =>
    intro pre suf i hm h1 hi
    have : pre = [] := List.length_eq_zero_iff.1 hm
    subst this
    rw [f_pluviallaw10_LabelMakes.l3, if_neg (by simp [hi]), h1, List.nil_append]
  | succ m ih =>
    intro pre suf i hm h1 hi
    rcases List.eq_nil_or_concat pre with rfl | ⟨p', p, rfl⟩
    · simp at hm
    rw [List.concat_eq_append] at *
    have hlen := congrArg List.length h1
    simp only [List.length_append, List.length_singleton] at hm hi hlen
    rw [f_pluviallaw10_LabelMakes.l3, if_pos (by simp; omega), at_mid (pre := p') (suf := suf) (x := p) (by rw [h1]; simp) (by omega), sb, eqB, wrap64 (by omega) (by omega)]
    have : ((if decide (p.f0 = s) = true then (some p.f1) else (some (getV suf s))) : Option ByteArray) = some (getV (p :: suf) s) := by
      rw [getV]
      by_cases e : p.f0 = s <;> simp [e]
    rw [this, sb]
    exact ih p' (p :: suf) (i - 1) (by omega) (by rw [h1]; simp) (by omega)
theorem get_l2 (l : List TLabel) (c : List ByteArray) (o : List TLabel) (hl : l.length < 10000000000000) (hc : c.length < 1000) : ∀ (suf pre : List ByteArray) (i : Int), c = pre ++ suf → i = (pre.length : Int) → f_pluviallaw10_LabelMakes.l2 l c o i = some (.inr ()) := by
  intro suf
  induction suf with
  | nil => intro pre i h1 hi; rw [f_pluviallaw10_LabelMakes.l2, if_neg (by rw [h1]; simp [hi])]
  | cons s suf ih =>
    intro pre i h1 hi
    have hlen : c.length = pre.length + (suf.length + 1) := by rw [h1]; simp
    rw [f_pluviallaw10_LabelMakes.l2, if_pos (by simp; omega), at_mid h1 hi, sb, wrap64 (n := (l.length : Int) - 1) (by omega) (by omega),
      show f_pluviallaw10_LabelMakes.l3 l c s o i (⟨#[]⟩ : ByteArray) ((l.length : Int) - 1) = _ from get_l3 l c s o i hl l.length l [] ((l.length : Int) - 1) rfl (by simp) rfl, sb, lget l s hl, sb, if_neg (by simp), wrap64 (by omega) (by omega)]
    exact ih (pre ++ [s]) (i + 1) (by simp [h1]) (by simp; omega)
theorem labelMakes_true (l m : List TLabel) (c : List ByteArray) (h : Fit l) (hm : Fit m) : f_pluviallaw10_LabelMakes.f l m c = some true := by
  have hl : l.length < 10000000000000 := by unfold Fit at h; omega
  have hml : m.length < 10000000000000 := by unfold Fit at hm; omega
  unfold f_pluviallaw10_LabelMakes.f
  obtain ⟨b1, e1⟩ := light10 l hl
  obtain ⟨b2, e2⟩ := light10 m hml
  rw [e1, sb, e2]
  have hg : ((if (!b1) = true then (some true) else ((some b2) >>= fun t29 => if (!t29) = true then (some true) else (some (decide ((c.length : Int) > (20 : Int)))))) : Option Bool) = some (!b1 || !b2 || decide ((c.length : Int) > 20)) := by
    cases b1
    · rfl
    · cases b2 <;> rfl
  rw [hg, sb]
  by_cases hx : (!b1 || !b2 || decide ((c.length : Int) > 20)) = true
  · rw [if_pos hx, awake10, sb]
  rw [if_neg hx]
  have hc : c.length ≤ 20 := by
    simp only [Bool.or_eq_true, not_or, decide_eq_true_eq] at hx
    have := hx.2; omega
  have hf : (full l).length ≤ l.length := List.length_filter_le ..
  have hS : (S nLt (full l)).length = (full l).length := S_len _
  rw [lcheck, sb, rcheck, sb, if_neg (by simp), lcmp l m hl hml, sb, rcmp l m hl hml, sb, sb, if_neg (by simp), lmake l h, sb, rmake l h, sb]
  have hs : (f_pluviallaw10_same.f (if chkC (S nLt (full l)) = 0 then (S nLt (full l), 0) else ([], chkC (S nLt (full l)))).1 (if chkC (S nLt (full l)) = 0 then (S nLt (full l), 0) else ([], chkC (S nLt (full l)))).1) = some true := by
    split
    · rw [same10 _ _ (by rw [hS]; omega) (by rw [hS]; omega)]; simp
    · rw [same10 _ _ (by simp) (by simp)]; simp
  rw [if_neg (by simp), hs, sb, sb, if_neg (by simp), show f_pluviallaw10_LabelMakes.l0 l c [] 0 = _ from by_l0 l h c (by omega) l [] 0 rfl rfl, sb, get_l2 l c _ hl (by omega) c [] 0 rfl rfl, sb]
  dsimp only
  have hfl : (l.filter fun x => memB x.f0 c).length ≤ l.length := List.length_filter_le ..
  rw [awake10, sb, if_pos rfl, lby l h c (by omega), sb, same10 _ _ (by omega) (by omega), sb, sb]
  simp
theorem labelMakes_R (l m : List TLabel) (c : List ByteArray) (hl : l.length ≤ maxLen ∧ ∀ y ∈ l, RLabel y) (hm : m.length ≤ maxLen ∧ ∀ y ∈ m, RLabel y) (hc : c.length ≤ maxLen ∧ ∀ y ∈ c, y.size ≤ maxLen)
    (K0 : l.length * 32 ≤ reachBytes) (K1 : m.length * 32 ≤ reachBytes) (K2 : c.length * 16 ≤ reachBytes) : f_pluviallaw10_LabelMakes.f l m c = some true :=
  labelMakes_true l m c (by unfold Fit; unfold reachBytes at K0; omega) (by unfold Fit; unfold reachBytes at K1; omega)
end Go.Proofs.Ytjfhobijgkccdaa.PvGA1
