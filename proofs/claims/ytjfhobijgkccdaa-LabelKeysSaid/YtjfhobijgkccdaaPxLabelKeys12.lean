import Derived.Test.YtjfhobijgkccdaaPxLabelKeys11
set_option linter.unusedVariables false
set_option linter.unusedSimpArgs false
namespace Go.Proofs.Ytjfhobijgkccdaa.PvGA1
open Go Go.Pv Go.Pv.GS
theorem awake10 : f_pluviallaw10_awake.f = some true := by cbv
theorem light_ex (l : List TLabel) (hl : l.length < 10000000000000) : ∀ (m : Nat) (n i : Int), i = ((l.length - m : Nat) : Int) → m ≤ l.length → ∃ r, f_pluviallaw10_Light.l0 l n i = some r := by
  intro m
  induction m with
  | zero => intro n i hi hm; rw [f_pluviallaw10_Light.l0, if_neg (by simp; omega)]; exact ⟨n, rfl⟩
  | succ m ih =>
    intro n i hi hm
    rw [f_pluviallaw10_Light.l0, if_pos (by simp; omega), at_nat (k := l.length - (m + 1)) hi (List.getElem?_eq_getElem (by omega)), sb, wrap64 (n := i + 1) (by omega) (by omega)]
    exact ih _ _ (by omega) (by omega)
theorem light10 (l : List TLabel) (hl : l.length < 10000000000000) : ∃ b, f_pluviallaw10_Light.f l = some b := by
  unfold f_pluviallaw10_Light.f
  obtain ⟨r, e⟩ := light_ex l hl l.length 0 0 (by omega) (by omega)
  rw [e, sb]; exact ⟨_, rfl⟩
def memB (s : ByteArray) : List ByteArray → Bool
  | [] => false
  | y :: l => decide (s = y) || memB s l
theorem memB_mem {s : ByteArray} {l : List ByteArray} (h : s ∈ l) : memB s l = true := by
  induction l with
  | nil => simp at h
  | cons y l ih =>
    rw [memB]
    rcases List.mem_cons.1 h with rfl | h
    · simp
    · simp [ih h]
theorem contains_l0 (l : List ByteArray) (s : ByteArray) (hl : l.length < 10000000000000) : ∀ (suf pre : List ByteArray) (i : Int), l = pre ++ suf → i = (pre.length : Int) →
    (memB s suf = false ∧ f_slices_Index_string.l0 l s i = some (.inr ())) ∨ (memB s suf = true ∧ ∃ k : Int, 0 ≤ k ∧ f_slices_Index_string.l0 l s i = some (.inl k)) := by
  intro suf
  induction suf with
  | nil => intro pre i h1 hi; rw [f_slices_Index_string.l0, if_neg (by rw [h1]; simp [hi])]; exact .inl ⟨rfl, rfl⟩
  | cons x suf ih =>
    intro pre i h1 hi
    have hlen : l.length = pre.length + (suf.length + 1) := by rw [h1]; simp
    rw [f_slices_Index_string.l0, if_pos (by simp; omega), at_mid h1 hi, sb, eqB, wrap64 (by omega) (by omega)]
    by_cases e : s = x
    · rw [if_pos (by simpa using e)]
      exact .inr ⟨by simp [memB, e], i, by omega, rfl⟩
    · rw [if_neg (by simpa using e)]
      rcases ih (pre ++ [x]) (i + 1) (by simp [h1]) (by simp; omega) with ⟨q1, q2⟩ | ⟨q1, q2⟩
      · exact .inl ⟨by simp [memB, e, q1], q2⟩
      · exact .inr ⟨by simp [memB, q1], q2⟩
theorem contains (l : List ByteArray) (s : ByteArray) (hl : l.length < 10000000000000) : f_slices_Contains_string.f l s = some (memB s l) := by
  unfold f_slices_Contains_string.f f_slices_Index_string.f
  rcases contains_l0 l s hl l [] 0 rfl rfl with ⟨q1, q2⟩ | ⟨q1, k, h0, q2⟩
  · rw [q2, sb, sb]; simp [q1]
  · rw [q2, sb, sb]; simp [q1, h0]
theorem by_inst (l : List TLabel) (c : List ByteArray) : f_slices_DeleteFunc_api_Label_label_By_1_375.f l c = deleteF.f (fun x => f_label_By_1_2c7.f x c) (⟨(⟨#[]⟩ : ByteArray), (⟨#[]⟩ : ByteArray)⟩ : TLabel) l := by kernel_rfl
theorem lby (l : List TLabel) (h : Fit l) (c : List ByteArray) (hc : c.length < 10000000000000) : f_label_By.f l c = some (l.filter fun x => memB x.f0 c) := by
  have hl : l.length < 10000000000000 := by unfold Fit at h; omega
  unfold f_label_By.f
  rw [clone_l l h, sb, by_inst, deleteF_eq (p := fun x => !memB x.f0 c) (fun x => by unfold f_label_By_1_2c7.f; rw [contains c _ hc, sb]) _ _ hl, sb]
  simp
end Go.Proofs.Ytjfhobijgkccdaa.PvGA1
set_option linter.unusedVariables false
set_option linter.unusedSimpArgs false
namespace Go.Proofs.Ytjfhobijgkccdaa.PvGA1
open Go Go.Pv Go.Pv.GS
theorem turned_perm' {α : Type} (l r : List α) (b : Nat) (hl : r.length = l.length) (h : ∀ k, k < l.length → r[k]? = l[(k + b) % l.length]?) : r.Perm l := by
  by_cases h0 : l.length = 0
  · rw [List.length_eq_zero_iff.1 h0, List.length_eq_zero_iff.1 (hl.trans h0)]
  have hc : b % l.length < l.length := Nat.mod_lt _ (by omega)
  have : r = l.drop (b % l.length) ++ l.take (b % l.length) := by
    apply List.ext_getElem?
    intro k
    by_cases hk : k < l.length
    · rw [h k hk]
      have e : (k + b) % l.length = (k + b % l.length) % l.length := by rw [Nat.add_mod_mod]
      by_cases h1 : k < l.length - b % l.length
      · rw [List.getElem?_append_left (by simp; omega), List.getElem?_drop, e, Nat.mod_eq_of_lt (by omega)]
        congr 1; omega
      · rw [List.getElem?_append_right (by simp; omega), List.getElem?_take, if_pos (by simp; omega), e, Nat.mod_eq_sub_mod (by omega), Nat.mod_eq_of_lt (by omega)]
        congr 1; simp; omega
    · rw [List.getElem?_eq_none (by omega), List.getElem?_eq_none (by simp; omega)]
  rw [this]
  refine List.perm_append_comm.trans ?_
  rw [List.take_append_drop]
theorem keys_l0 (l m : List TLabel) (h : Fit l) (by_ : Int) (hb : 0 ≤ by_ ∧ by_ < 256) : ∀ (n : Nat) (x : List TLabel) (i : Int), n + x.length = l.length → i = (x.length : Int) →
    ∃ r, f_pluviallaw10_LabelKeys.l0 l m by_ x ((l.take x.length).map (·.f0)) i = some (r, l.map (·.f0)) ∧ r.length = l.length ∧ (∀ k, k < x.length → r[k]? = x[k]?) ∧ ∀ k, x.length ≤ k → k < l.length → r[k]? = l[(k + by_.toNat) % l.length]? := by
  intro n
  unfold Fit at h
  induction n with
  | zero =>
    intro x i hm hi
    rw [f_pluviallaw10_LabelKeys.l0, if_neg (by simp; omega), List.take_of_length_le (by omega)]
    exact ⟨x, rfl, by omega, fun _ _ => rfl, fun k h1 h2 => by omega⟩
  | succ n ih =>
    intro x i hm hi
    have hpos : 0 < l.length := by omega
    have hidx : (x.length + by_.toNat) % l.length < l.length := Nat.mod_lt _ hpos
    have ht : Int.tmod (i + by_) (l.length : Int) = (((x.length + by_.toNat) % l.length : Nat) : Int) := by
      rw [show i + by_ = ((x.length + by_.toNat : Nat) : Int) by omega, Int.tmod_eq_emod_of_nonneg (by omega)]
      rfl
    have hxl : x.length < l.length := by omega
    rw [f_pluviallaw10_LabelKeys.l0, if_pos (by simp; omega), chkB (by omega), wrap64 (n := by_) (by omega) (by omega), wrap64 (n := i + by_) (by omega) (by omega), ht,
      at_nat rfl (List.getElem?_eq_getElem hidx), sb, chkB (by simp; omega), at_nat hi (List.getElem?_eq_getElem hxl), sb, chkB (by simp; omega), wrap64 (n := i + 1) (by omega) (by omega)]
    have et : (l.take x.length).map (·.f0) ++ [l[x.length].f0] = (l.take (x ++ [l[(x.length + by_.toNat) % l.length]]).length).map (·.f0) := by
      rw [List.length_append, List.length_singleton, List.take_add_one, List.getElem?_eq_getElem hxl, List.map_append]; rfl
    rw [et]
    obtain ⟨r, e, h1, h2, h3⟩ := ih (x ++ [l[(x.length + by_.toNat) % l.length]]) (i + 1) (by simp; omega) (by simp; omega)
    refine ⟨r, e, h1, fun k hk => ?_, fun k hk hk2 => ?_⟩
    · rw [h2 k (by simp; omega), List.getElem?_append_left hk]
    · by_cases e2 : k = x.length
      · subst e2
        rw [h2 x.length (by simp), List.getElem?_append_right (Nat.le_refl _)]
        simp
      · exact h3 k (by simp; omega) hk2
def Right2 (l : List TLabel) : Prop := (∀ x ∈ l, nameB x.f0 = true ∧ valB x.f1 = true) ∧ l.Pairwise (fun a b => nLt a b = true)
theorem rising_some : ∀ (l : List TLabel) (q : ByteArray), risingB (some q) l = true ↔ Right2 l ∧ ∀ x ∈ l, bl q x.f0 = true
  | [], q => by simp [risingB, Right2]
  | x :: l, q => by
    have ih := rising_some l x.f0
    rw [risingB_cons]
    simp only [Bool.and_eq_true, ih]
    unfold Right2
    simp only [List.mem_cons, forall_eq_or_imp, List.pairwise_cons]
    constructor
    · rintro ⟨h1, h2, h3, ⟨h4, h5⟩, h6⟩
      exact ⟨⟨⟨⟨h1, h2⟩, h4⟩, h6, h5⟩, h3, fun y hy => bl_trans _ _ _ h3 (h6 y hy)⟩
    · rintro ⟨⟨⟨⟨h1, h2⟩, h4⟩, h6, h5⟩, h3, h7⟩
      exact ⟨h1, h2, h3, ⟨h4, h5⟩, h6⟩
theorem rising_none (l : List TLabel) : risingB none l = true ↔ Right2 l := by
  cases l with
  | nil => simp [risingB, Right2]
  | cons x l =>
    rw [risingB_cons]
    simp only [Bool.and_eq_true, rising_some]
    unfold Right2
    simp only [List.mem_cons, forall_eq_or_imp, List.pairwise_cons]
    constructor
    · rintro ⟨h1, h2, _, ⟨h4, h5⟩, h6⟩
      exact ⟨⟨⟨h1, h2⟩, h4⟩, h6, h5⟩
    · rintro ⟨⟨⟨h1, h2⟩, h4⟩, h6, h5⟩
      exact ⟨h1, h2, trivial, ⟨h4, h5⟩, h6⟩
theorem chkC_zero {l : List TLabel} (h : chkC l = 0) : l.length ≤ 16 ∧ Right2 l := by
  unfold chkC at h
  by_cases q : l.length > 16
  · rw [if_pos q] at h; omega
  · rw [if_neg q] at h
    by_cases q2 : risingB none l = true
    · exact ⟨by omega, (rising_none l).1 q2⟩
    · rw [if_neg q2] at h; omega
theorem sorted_unique : ∀ {A T : List TLabel}, A.Pairwise (fun a b => nLt a b = true) → T.Perm A → T.Pairwise (fun a b => nLt b a = false) → T = A
  | [], T, _, hp, _ => List.Perm.eq_nil hp
  | x :: A, T, hA, hp, hT => by
    cases T with
    | nil => exact absurd hp.length_eq (by simp)
    | cons y T =>
      have hA' := List.pairwise_cons.1 hA
      have hT' := List.pairwise_cons.1 hT
      have e : y = x := by
        rcases List.mem_cons.1 (hp.mem_iff.1 (List.mem_cons_self (a := y) (l := T))) with q | q
        · exact q
        · rcases List.mem_cons.1 (hp.mem_iff.2 (List.mem_cons_self (a := x) (l := A))) with p | p
          · exact p.symm
          · have h1 := hA'.1 y q
            have h2 := hT'.1 x p
            rw [h1] at h2; exact absurd h2 (by simp)
      subst e
      rw [sorted_unique hA'.2 (List.Perm.cons_inv hp) hT'.2]
theorem srt_pairwise {l : List TLabel} (h : Srt nLt l) : l.Pairwise (fun a b => nLt b a = false) := h
theorem chk_perm {a t : List TLabel} (hp : t.Perm a) : chkC (S nLt (full a)) = chkC (S nLt (full t)) ∧ (chkC (S nLt (full a)) = 0 → S nLt (full a) = S nLt (full t)) := by
  have hp2 : (S nLt (full t)).Perm (S nLt (full a)) := ((S_perm _).trans (hp.filter _)).trans (S_perm _).symm
  have sA := srt_pairwise (S_sorted nLt_swo (full a))
  have sT := srt_pairwise (S_sorted nLt_swo (full t))
  generalize S nLt (full a) = A at *
  generalize S nLt (full t) = T at *
  have hl := hp2.length_eq
  by_cases q1 : chkC A = 0
  · have := sorted_unique (chkC_zero q1).2.2 hp2 sT
    subst this; exact ⟨rfl, fun _ => rfl⟩
  by_cases q2 : chkC T = 0
  · have := sorted_unique (chkC_zero q2).2.2 hp2.symm sA
    subst this; exact ⟨rfl, fun _ => rfl⟩
  refine ⟨?_, fun q => absurd q q1⟩
  unfold chkC at q1 q2 ⊢
  rw [hl] at *
  by_cases q : A.length > 16
  · rw [if_pos q, if_pos q]
  · rw [if_neg q] at q1 q2 ⊢
    rw [if_neg q]
    by_cases p1 : risingB none A = true
    · rw [if_pos p1] at q1; exact absurd rfl q1
    · by_cases p2 : risingB none T = true
      · rw [if_pos p2] at q2; exact absurd rfl q2
      · rw [if_neg p1, if_neg p2]
def word (s : ByteArray) : List UInt8 := UInt8.ofNat s.size :: L s
def keyL (l : List TLabel) : List UInt8 := l.flatMap fun x => word x.f0 ++ word x.f1
def Short (x : TLabel) : Prop := x.f0.size ≤ 64 ∧ x.f1.size ≤ 64
theorem keyL_cons (x : TLabel) (l : List TLabel) : keyL (x :: l) = word x.f0 ++ (word x.f1 ++ keyL l) := by simp [keyL]
theorem word_len (s : ByteArray) : (word s).length = s.size + 1 := by rw [word, List.length_cons, size_L]
theorem word_inj {a b : ByteArray} {x y : List UInt8} (ha : a.size ≤ 64) (hb : b.size ≤ 64) (h : word a ++ x = word b ++ y) : a = b ∧ x = y := by
  have h0 : UInt8.ofNat a.size = UInt8.ofNat b.size := by
    have := congrArg List.head? h
    simpa [word] using this
  have hs : a.size = b.size := by
    have := congrArg UInt8.toNat h0
    rw [UInt8.toNat_ofNat', UInt8.toNat_ofNat', Nat.mod_eq_of_lt (by omega), Nat.mod_eq_of_lt (by omega)] at this
    exact this
  obtain ⟨h1, h2⟩ := List.append_inj h (by rw [word_len, word_len, hs])
  simp only [word, List.cons.injEq] at h1
  exact ⟨ext_L h1.2, h2⟩
theorem keyL_inj : ∀ {a b : List TLabel}, (∀ x ∈ a, Short x) → (∀ x ∈ b, Short x) → keyL a = keyL b → a = b
  | [], [], _, _, _ => rfl
  | [], y :: b, _, _, h => by rw [keyL_cons, word] at h; simp [keyL] at h
  | x :: a, [], _, _, h => by rw [keyL_cons, word] at h; simp [keyL] at h
  | x :: a, y :: b, ha, hb, h => by
    rw [keyL_cons, keyL_cons] at h
    have hx := ha x (by simp)
    have hy := hb y (by simp)
    obtain ⟨h1, h2⟩ := word_inj hx.1 hy.1 h
    obtain ⟨h3, h4⟩ := word_inj hx.2 hy.2 h2
    rw [keyL_inj (fun z hz => ha z (by simp [hz])) (fun z hz => hb z (by simp [hz])) h4]
    congr 1
    cases x; cases y; simp_all
theorem word_ints (s : ByteArray) (h : s.size ≤ 64) : IntKind.u8.wrap (s.size : Int) :: bytesL s = ints (word s) := by
  rw [word, ints, List.map_cons, bytesL_eq, ints, UInt8.toNat_ofNat', Nat.mod_eq_of_lt (by omega)]
  congr 1
  simp only [IntKind.wrap, IntKind.signed, IntKind.bits]; simp; omega
theorem key_l1 (l : List TLabel) (x : TLabel) (hx : Short x) (j : Int) (o : List UInt8) (ho : o.length < 1000000) : f_label_Key.l1 l x j (ints o) 0 = some (ints (o ++ (word x.f0 ++ word x.f1))) := by
  have w1 : IntKind.i64.wrap ((0 : Int) + 1) = 1 := by decide
  have w2 : IntKind.i64.wrap ((1 : Int) + 1) = 2 := by decide
  have hx0 := hx.1
  have hx1 := hx.2
  have q : ∀ (s : ByteArray) (o : List UInt8), s.size ≤ 64 → (ints o ++ [IntKind.u8.wrap (s.size : Int)]) ++ bytesL s = ints (o ++ word s) := fun s o h => by
    rw [ints_append, ← word_ints s h]; simp
  have hl : ∀ o : List UInt8, (ints o).length = o.length := fun o => by simp [ints]
  have hwl := word_len x.f0
  rw [f_label_Key.l1, if_pos (by simp), chkB (by omega), if_pos (by simp), sb, chkB (by rw [hl]; simp; omega), chkB (by rw [List.length_append, hl]; simp; omega), q _ _ hx0, w1,
    f_label_Key.l1, if_pos (by simp), chkB (by omega), if_neg (by simp), sb, chkB (by rw [hl, List.length_append]; simp; omega), chkB (by rw [List.length_append, hl, List.length_append]; simp; omega), q _ _ hx1, w2,
    f_label_Key.l1, if_neg (by simp)]
  simp
theorem key_l0 (l : List TLabel) (hl : l.length ≤ 16) (hs : ∀ x ∈ l, Short x) : ∀ (suf pre : List TLabel) (o : List UInt8) (i : Int), l = pre ++ suf → i = (pre.length : Int) → o.length ≤ 130 * pre.length →
    f_label_Key.l0 l (ints o) i = some (ints (o ++ keyL suf)) := by
  intro suf
  induction suf with
  | nil => intro pre o i h1 hi ho; rw [f_label_Key.l0, if_neg (by rw [h1]; simp [hi])]; simp [keyL]
  | cons x suf ih =>
    intro pre o i h1 hi ho
    have hlen : l.length = pre.length + (suf.length + 1) := by rw [h1]; simp
    have hx := hs x (by rw [h1]; simp)
    have h0 := word_len x.f0
    have h1' := word_len x.f1
    have hx0 := hx.1
    have hx1 := hx.2
    rw [f_label_Key.l0, if_pos (by simp; omega), at_mid h1 hi, sb, key_l1 l x hx i o (by omega), sb, wrap64 (by omega) (by omega), ih (pre ++ [x]) _ (i + 1) (by simp [h1]) (by simp; omega) (by simp; omega), keyL_cons]
    simp
theorem lkey (l : List TLabel) (hl : l.length ≤ 16) (hs : ∀ x ∈ l, Short x) : f_label_Key.f l = some ⟨(keyL l).toArray⟩ := by
  unfold f_label_Key.f
  rw [show f_label_Key.l0 l [] 0 = _ from key_l0 l hl hs l [] [] 0 rfl rfl (by simp), sb, List.nil_append, strOf_ints]
theorem right_short {l : List TLabel} (h : Right2 l) : ∀ x ∈ l, Short x := fun x hx => by
  have := h.1 x hx
  simp only [nameB, valB, Bool.and_eq_true, decide_eq_true_eq] at this
  exact ⟨this.1.1.2, this.2.2⟩
theorem labelKeys_true (a b : List TLabel) (by_ : Int) (h : Fit a) (hb : Fit b) (hby : 0 ≤ by_ ∧ by_ < 256) : f_pluviallaw10_LabelKeys.f a b by_ = some true := by
  have hl : a.length < 10000000000000 := by unfold Fit at h; omega
  have hml : b.length < 10000000000000 := by unfold Fit at hb; omega
  unfold f_pluviallaw10_LabelKeys.f
  obtain ⟨b1, e1⟩ := light10 a hl
  obtain ⟨b2, e2⟩ := light10 b hml
  rw [e1, sb, e2]
  have hg : ((if (!b1) = true then (some true) else ((some b2) >>= fun t29 => if (!t29) = true then (some true) else (some ((a.length : Int) == (0 : Int))))) : Option Bool) = some (!b1 || !b2 || ((a.length : Int) == 0)) := by
    cases b1
    · rfl
    · cases b2 <;> rfl
  rw [hg, sb]
  by_cases hx : (!b1 || !b2 || ((a.length : Int) == 0)) = true
  · rw [if_pos hx, awake10, sb]
  rw [if_neg hx]
  obtain ⟨t, et, htl, _, htk⟩ := keys_l0 a b h by_ hby a.length [] 0 (by simp) rfl
  have hp := turned_perm' a t by_.toNat htl (fun k hk => htk k (Nat.zero_le _) hk)
  rw [show f_pluviallaw10_LabelKeys.l0 a b by_ [] [] 0 = _ from et, sb]
  dsimp only
  have ht : Fit t := by unfold Fit at h ⊢; omega
  rw [lmake a h, sb, lmake t ht, sb]
  obtain ⟨c1, c2⟩ := chk_perm hp
  have hfa : (full a).length ≤ a.length := List.length_filter_le ..
  have hSa : (S nLt (full a)).length = (full a).length := S_len _
  have hby1 : f_label_By.f a (a.map (·.f0)) = some a := by
    rw [lby a h _ (by simpa using hl)]
    congr 1
    exact List.filter_eq_self.2 (fun x hx => memB_mem (List.mem_map.2 ⟨x, hx, rfl⟩))
  have hby2 : f_label_By.f a ([] : List ByteArray) = some [] := by
    rw [lby a h _ (by simp)]
    congr 1
    exact List.filter_eq_nil_iff.2 (fun x hx => by simp [memB])
  have hbody : ∀ (q1 q2 : List TLabel × Int), q1.2 = q2.2 → (q1.2 = 0 → q1.1 = q2.1 ∧ q1.1.length < 10000000000000) →
      ((if (q1.2 != q2.2) = true then (some true) else (if (q1.2 == (0 : Int)) = true then ((f_pluviallaw10_same.f q1.1 q2.1) >>= fun t1953 => if (!t1953) = true then (some true) else ((f_label_By.f a (a.map (·.f0))) >>= fun t1956 => (f_pluviallaw10_same.f t1956 a) >>= fun t1958 => if (!t1958) = true then (some true) else ((f_label_By.f a ([] : List ByteArray)) >>= fun t1961 => some ((t1961.length : Int) != (0 : Int))))) else ((f_label_By.f a (a.map (·.f0))) >>= fun t1963 => (f_pluviallaw10_same.f t1963 a) >>= fun t1965 => if (!t1965) = true then (some true) else ((f_label_By.f a ([] : List ByteArray)) >>= fun t1968 => some ((t1968.length : Int) != (0 : Int)))))) : Option (Bool)) = some false := fun q1 q2 g1 g2 => by
    rw [hby1, hby2]
    simp only [sb]
    rw [same10 a a hl hl]
    simp only [sb]
    rw [if_neg (by simp [g1])]
    by_cases g : q1.2 = 0
    · obtain ⟨g3, g4⟩ := g2 g
      rw [if_pos (by simpa using g), ← g3, same10 _ _ g4 g4, sb]
      simp [sb]
    · rw [if_neg (by simpa using g)]
      simp [sb]
  rw [hbody _ _ (by rw [← c1]; split <;> rfl) (fun g => by
    by_cases q : chkC (S nLt (full a)) = 0
    · rw [if_pos q, if_pos (by rw [← c1]; exact q)]
      exact ⟨c2 q, by simp only; omega⟩
    · rw [if_neg q] at g; exact absurd g q), sb, if_neg (by simp), rcheck, sb, rcheck, sb]
  have hg2 : ((if (chkC a != (0 : Int)) = true then (some true) else (some (chkC b != (0 : Int)))) : Option Bool) = some (chkC a != 0 || chkC b != 0) := by
    by_cases q : chkC a = 0 <;> simp [q]
  rw [hg2, sb]
  by_cases hx2 : (chkC a != 0 || chkC b != 0) = true
  · rw [if_pos hx2, awake10, sb]
  rw [if_neg hx2]
  have qa : chkC a = 0 := by
    by_cases q : chkC a = 0
    · exact q
    · exact absurd (by simp [q]) hx2
  have qb : chkC b = 0 := by
    by_cases q : chkC b = 0
    · exact q
    · exact absurd (by simp [q]) hx2
  obtain ⟨la, ra⟩ := chkC_zero qa
  obtain ⟨lb, rb⟩ := chkC_zero qb
  rw [awake10, sb, if_pos rfl, lkey a la (right_short ra), sb, lkey b lb (right_short rb), sb, lcmp a b hl hml, sb, lcmp b a hml hl, eqB]
  have hk : decide ((⟨(keyL a).toArray⟩ : ByteArray) = ⟨(keyL b).toArray⟩) = decide (a = b) := by
    rw [Bool.eq_iff_iff, decide_eq_true_eq, decide_eq_true_eq]
    constructor
    · intro e
      refine keyL_inj (right_short ra) (right_short rb) ?_
      have := congrArg L e
      simpa [L] using this
    · intro e; rw [e]
  have hc : (cmpL a b == 0) = decide (a = b) := by rw [Bool.eq_iff_iff, beq_iff_eq, decide_eq_true_eq, cmpL_zero]
  rw [hk, hc, if_pos (by simp), sb, sb, sb]
  have := cmpL_neg a b
  have hr := cmpL_rng b a
  rw [wrap64 (by omega) (by omega)]
  simp; omega
theorem labelKeys_R (l m : List TLabel) (b : Int) (hl : l.length ≤ maxLen ∧ ∀ y ∈ l, RLabel y) (hm : m.length ≤ maxLen ∧ ∀ y ∈ m, RLabel y) (hb : Rng 0 256 b)
    (K0 : l.length * 32 ≤ reachBytes) (K1 : m.length * 32 ≤ reachBytes) : f_pluviallaw10_LabelKeys.f l m b = some true :=
  labelKeys_true l m b (by unfold Fit; unfold reachBytes at K0; omega) (by unfold Fit; unfold reachBytes at K1; omega) hb
end Go.Proofs.Ytjfhobijgkccdaa.PvGA1
