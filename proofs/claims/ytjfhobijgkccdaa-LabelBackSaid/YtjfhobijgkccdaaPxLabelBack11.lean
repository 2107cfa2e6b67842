import Derived.Test.YtjfhobijgkccdaaPxLabelBack10
set_option linter.unusedVariables false
set_option linter.unusedSimpArgs false
namespace Go.Proofs.Ytjfhobijgkccdaa.PvGA2
open Go Go.Pv Go.Pv.GS
theorem awake10 : f_pluviallaw10_awake.f = some true := by cbv
theorem light_ex (l : List TLabel) (hl : l.length < 10000000000000) : ∀ (m : Nat) (n i : Int), i = ((l.length - m : Nat) : Int) → m ≤ l.length → ∃ r, f_pluviallaw10_Light.l0 l n i = some r := by
  intro m
  induction m with
  | zero => intro n i hi hm; rw [f_pluviallaw10_Light.l0, if_neg (by simp; omega)]; exact ⟨n, rfl⟩
  | succ m ih =>
    intro n i hi hm
    rw [f_pluviallaw10_Light.l0, if_pos (by simp; omega), at_nat (k := l.length - (m + 1)) hi (List.getElem?_eq_getElem (by omega)), sb, wrap64 (n := i + 1) (by omega) (by omega)]
    exact ih _ _ (by omega) (by omega)
theorem light10 (l : List TLabel) (hl : l.length < 10000000000000) : ∃ b, f_pluviallaw10_Light.f l = some b := by
  unfold f_pluviallaw10_Light.f
  obtain ⟨r, e⟩ := light_ex l hl l.length 0 0 (by omega) (by omega)
  rw [e, sb]; exact ⟨_, rfl⟩
end Go.Proofs.Ytjfhobijgkccdaa.PvGA2
set_option linter.unusedVariables false
set_option linter.unusedSimpArgs false
namespace Go.Proofs.Ytjfhobijgkccdaa.PvGA2
open Go Go.Pv Go.Pv.GS
def Right2 (l : List TLabel) : Prop := (∀ x ∈ l, nameB x.f0 = true ∧ valB x.f1 = true) ∧ l.Pairwise (fun a b => nLt a b = true)
theorem rising_some : ∀ (l : List TLabel) (q : ByteArray), risingB (some q) l = true ↔ Right2 l ∧ ∀ x ∈ l, bl q x.f0 = true
  | [], q => by simp [risingB, Right2]
  | x :: l, q => by
    have ih := rising_some l x.f0
    rw [risingB_cons]
    simp only [Bool.and_eq_true, ih]
    unfold Right2
    simp only [List.mem_cons, forall_eq_or_imp, List.pairwise_cons]
    constructor
    · rintro ⟨h1, h2, h3, ⟨h4, h5⟩, h6⟩
      exact ⟨⟨⟨⟨h1, h2⟩, h4⟩, h6, h5⟩, h3, fun y hy => bl_trans _ _ _ h3 (h6 y hy)⟩
    · rintro ⟨⟨⟨⟨h1, h2⟩, h4⟩, h6, h5⟩, h3, h7⟩
      exact ⟨h1, h2, h3, ⟨h4, h5⟩, h6⟩
theorem rising_none (l : List TLabel) : risingB none l = true ↔ Right2 l := by
  cases l with
  | nil => simp [risingB, Right2]
  | cons x l =>
    rw [risingB_cons]
    simp only [Bool.and_eq_true, rising_some]
    unfold Right2
    simp only [List.mem_cons, forall_eq_or_imp, List.pairwise_cons]
    constructor
    · rintro ⟨h1, h2, _, ⟨h4, h5⟩, h6⟩
      exact ⟨⟨⟨h1, h2⟩, h4⟩, h6, h5⟩
    · rintro ⟨⟨⟨h1, h2⟩, h4⟩, h6, h5⟩
      exact ⟨h1, h2, trivial, ⟨h4, h5⟩, h6⟩
theorem chkC_zero {l : List TLabel} (h : chkC l = 0) : l.length ≤ 16 ∧ Right2 l := by
  unfold chkC at h
  by_cases q : l.length > 16
  · rw [if_pos q] at h; omega
  · rw [if_neg q] at h
    by_cases q2 : risingB none l = true
    · exact ⟨by omega, (rising_none l).1 q2⟩
    · rw [if_neg q2] at h; omega
def word (s : ByteArray) : List UInt8 := UInt8.ofNat s.size :: L s
def keyL (l : List TLabel) : List UInt8 := l.flatMap fun x => word x.f0 ++ word x.f1
def Short (x : TLabel) : Prop := x.f0.size ≤ 64 ∧ x.f1.size ≤ 64
theorem keyL_cons (x : TLabel) (l : List TLabel) : keyL (x :: l) = word x.f0 ++ (word x.f1 ++ keyL l) := by simp [keyL]
theorem word_len (s : ByteArray) : (word s).length = s.size + 1 := by rw [word, List.length_cons, size_L]
theorem word_inj {a b : ByteArray} {x y : List UInt8} (ha : a.size ≤ 64) (hb : b.size ≤ 64) (h : word a ++ x = word b ++ y) : a = b ∧ x = y := by
  have h0 : UInt8.ofNat a.size = UInt8.ofNat b.size := by
    have := congrArg List.head? h
    simpa [word] using this
  have hs : a.size = b.size := by
    have := congrArg UInt8.toNat h0
    rw [UInt8.toNat_ofNat', UInt8.toNat_ofNat', Nat.mod_eq_of_lt (by omega), Nat.mod_eq_of_lt (by omega)] at this
    exact this
  obtain ⟨h1, h2⟩ := List.append_inj h (by rw [word_len, word_len, hs])
  simp only [word, List.cons.injEq] at h1
  exact ⟨ext_L h1.2, h2⟩
theorem keyL_inj : ∀ {a b : List TLabel}, (∀ x ∈ a, Short x) → (∀ x ∈ b, Short x) → keyL a = keyL b → a = b
  | [], [], _, _, _ => rfl
  | [], y :: b, _, _, h => by rw [keyL_cons, word] at h; simp [keyL] at h
  | x :: a, [], _, _, h => by rw [keyL_cons, word] at h; simp [keyL] at h
  | x :: a, y :: b, ha, hb, h => by
    rw [keyL_cons, keyL_cons] at h
    have hx := ha x (by simp)
    have hy := hb y (by simp)
    obtain ⟨h1, h2⟩ := word_inj hx.1 hy.1 h
    obtain ⟨h3, h4⟩ := word_inj hx.2 hy.2 h2
    rw [keyL_inj (fun z hz => ha z (by simp [hz])) (fun z hz => hb z (by simp [hz])) h4]
    congr 1
    cases x; cases y; simp_all
theorem word_ints (s : ByteArray) (h : s.size ≤ 64) : IntKind.u8.wrap (s.size : Int) :: bytesL s = ints (word s) := by
  rw [word, ints, List.map_cons, bytesL_eq, ints, UInt8.toNat_ofNat', Nat.mod_eq_of_lt (by omega)]
  congr 1
  simp only [IntKind.wrap, IntKind.signed, IntKind.bits]; simp; omega
theorem key_l1 (l : List TLabel) (x : TLabel) (hx : Short x) (j : Int) (o : List UInt8) (ho : o.length < 1000000) : f_label_Key.l1 l x j (ints o) 0 = some (ints (o ++ (word x.f0 ++ word x.f1))) := by
  have w1 : IntKind.i64.wrap ((0 : Int) + 1) = 1 := by decide
  have w2 : IntKind.i64.wrap ((1 : Int) + 1) = 2 := by decide
  have hx0 := hx.1
  have hx1 := hx.2
  have q : ∀ (s : ByteArray) (o : List UInt8), s.size ≤ 64 → (ints o ++ [IntKind.u8.wrap (s.size : Int)]) ++ bytesL s = ints (o ++ word s) := fun s o h => by
    rw [ints_append, ← word_ints s h]; simp
  have hl : ∀ o : List UInt8, (ints o).length = o.length := fun o => by simp [ints]
  have hwl := word_len x.f0
  rw [f_label_Key.l1, if_pos (by simp), chkB (by omega), if_pos (by simp), sb, chkB (by rw [hl]; simp; omega), chkB (by rw [List.length_append, hl]; simp; omega), q _ _ hx0, w1,
    f_label_Key.l1, if_pos (by simp), chkB (by omega), if_neg (by simp), sb, chkB (by rw [hl, List.length_append]; simp; omega), chkB (by rw [List.length_append, hl, List.length_append]; simp; omega), q _ _ hx1, w2,
    f_label_Key.l1, if_neg (by simp)]
  simp
theorem key_l0 (l : List TLabel) (hl : l.length ≤ 16) (hs : ∀ x ∈ l, Short x) : ∀ (suf pre : List TLabel) (o : List UInt8) (i : Int), l = pre ++ suf → i = (pre.length : Int) → o.length ≤ 130 * pre.length →
    f_label_Key.l0 l (ints o) i = some (ints (o ++ keyL suf)) := by
  intro suf
  induction suf with
  | nil => intro pre o i h1 hi ho; rw [f_label_Key.l0, if_neg (by rw [h1]; simp [hi])]; simp [keyL]
  | cons x suf ih =>
    intro pre o i h1 hi ho
    have hlen : l.length = pre.length + (suf.length + 1) := by rw [h1]; simp
    have hx := hs x (by rw [h1]; simp)
    have h0 := word_len x.f0
    have h1' := word_len x.f1
    have hx0 := hx.1
    have hx1 := hx.2
    rw [f_label_Key.l0, if_pos (by simp; omega), at_mid h1 hi, sb, key_l1 l x hx i o (by omega), sb, wrap64 (by omega) (by omega), ih (pre ++ [x]) _ (i + 1) (by simp [h1]) (by simp; omega) (by simp; omega), keyL_cons]
    simp
theorem lkey (l : List TLabel) (hl : l.length ≤ 16) (hs : ∀ x ∈ l, Short x) : f_label_Key.f l = some ⟨(keyL l).toArray⟩ := by
  unfold f_label_Key.f
  rw [show f_label_Key.l0 l [] 0 = _ from key_l0 l hl hs l [] [] 0 rfl rfl (by simp), sb, List.nil_append, strOf_ints]
theorem right_short {l : List TLabel} (h : Right2 l) : ∀ x ∈ l, Short x := fun x hx => by
  have := h.1 x hx
  simp only [nameB, valB, Bool.and_eq_true, decide_eq_true_eq] at this
  exact ⟨this.1.1.2, this.2.2⟩
end Go.Proofs.Ytjfhobijgkccdaa.PvGA2
set_option linter.unusedVariables false
set_option linter.unusedSimpArgs false
namespace Go.Proofs.Ytjfhobijgkccdaa.PvGA2
open Go Go.Pv
def esc (c : UInt8) : List UInt8 := if c = 10 then [92, 110] else if c = 34 ∨ c = 92 then [92, c] else [c]
def body (l : List UInt8) : List UInt8 := l.flatMap esc
theorem body_cons (c : UInt8) (l : List UInt8) : body (c :: l) = esc c ++ body l := by simp [body]
theorem esc_le (c : UInt8) : (esc c).length ≤ 2 := by unfold esc; split <;> (try split) <;> simp
theorem body_le : ∀ l : List UInt8, (body l).length ≤ 2 * l.length
  | [] => by simp [body]
  | c :: l => by rw [body_cons, List.length_append, List.length_cons]; have := esc_le c; have := body_le l; omega
theorem u8_eq {c : UInt8} {n : Nat} (hn : n < 256) : (((c.toNat : Int) == (n : Int)) = true) ↔ c = UInt8.ofNat n := by
  constructor
  · intro h
    have h' : (c.toNat : Int) = (n : Int) := by simpa using h
    apply UInt8.toNat_inj.1
    simp; omega
  · rintro rfl
    simp; omega
theorem wb2 {x : List Int} {c : Int} (h : x.length + 1 ≤ 100000) : f_strings_Builder_WriteByte_378.f x c = some (x ++ [c]) := by
  unfold f_strings_Builder_WriteByte_378.f f_strings_Builder_copyCheck_378.f
  rw [sb, chkB (by simp; omega)]
theorem ws {x : List Int} {s : ByteArray} (h : x.length + s.size ≤ 100000) : f_strings_Builder_WriteString_378.f x s = some (x ++ bytesL s) := by
  unfold f_strings_Builder_WriteString_378.f f_strings_Builder_copyCheck_378.f
  rw [sb, chkB (by omega)]
theorem quote_loop (s : ByteArray) (hs : s.size ≤ 1000) : ∀ (n i : Nat) (x : List Int), i + n = s.size → x.length + 2 * n ≤ 10000 →
    f_label_Quote.l0 s x (i : Int) = some (x ++ ints (body ((L s).drop i))) := by
  intro n
  induction n with
  | zero =>
    intro i x h hx
    rw [f_label_Quote.l0]
    have hd : (L s).drop i = [] := List.drop_eq_nil_of_le (by rw [size_L]; omega)
    rw [if_neg (by simp; omega), hd]
    simp [body, ints]
  | succ n ih =>
    intro i x h hx
    rw [f_label_Quote.l0]
    have hi : i < (L s).length := by rw [size_L]; omega
    have hbt : bt s (i : Int) = (((L s)[i]).toNat : Int) := bt_L (List.getElem?_eq_getElem hi)
    have hw : IntKind.i64.wrap ((i : Int) + 1) = ((i + 1 : Nat) : Int) := by rw [wrap64 (by omega) (by omega)]; omega
    rw [if_pos (by simp; omega), chkB (by omega), drop_cons hi, body_cons, hbt, hw]
    generalize (L s)[i] = c
    by_cases h10 : c = 10
    · subst h10
      rw [if_pos (by decide), ws (by show x.length + 2 ≤ _; omega), sb]
      show (_ >>= _) = _
      simp only [sb]
      rw [ih (i + 1) _ (by omega) (by rw [List.length_append]; show x.length + 2 + _ ≤ _; omega)]
      simp [esc, ints, bytesL]
    · have n10 : ¬ (((c.toNat : Int) == (10 : Int)) = true) := fun h => h10 ((u8_eq (n := 10) (by omega)).1 h)
      rw [if_neg n10]
      by_cases h34 : c = 34 ∨ c = 92
      · have hb : ((if (((c.toNat : Int)) == (34 : Int)) = true then (some (((c.toNat : Int)) == (34 : Int))) else (some (((c.toNat : Int)) == (92 : Int)))) : Option Bool) = some true := by
          rcases h34 with rfl | rfl <;> decide
        rw [hb, sb, if_pos rfl, wb2 (by omega), sb]
        simp only [sb]
        rw [wb2 (by simp; omega)]
        simp only [sb]
        rw [ih (i + 1) _ (by omega) (by simp; omega)]
        have he : esc c = [92, c] := by unfold esc; rw [if_neg h10, if_pos h34]
        rw [he]; simp [ints]
      · have hb : ((if (((c.toNat : Int)) == (34 : Int)) = true then (some (((c.toNat : Int)) == (34 : Int))) else (some (((c.toNat : Int)) == (92 : Int)))) : Option Bool) = some false := by
          have a1 : ¬ (((c.toNat : Int) == (34 : Int)) = true) := fun h => h34 (.inl ((u8_eq (n := 34) (by omega)).1 h))
          have a2 : ¬ (((c.toNat : Int) == (92 : Int)) = true) := fun h => h34 (.inr ((u8_eq (n := 92) (by omega)).1 h))
          rw [if_neg a1]; simp only [Bool.not_eq_true] at a2; rw [a2]
        rw [hb, sb, if_neg (by simp), sb]
        simp only
        rw [wb2 (by omega)]
        simp only [sb]
        rw [ih (i + 1) _ (by omega) (by simp; omega)]
        have he : esc c = [c] := by unfold esc; rw [if_neg h10, if_neg h34]
        rw [he]; simp [ints]
theorem quote_eq (s : ByteArray) (hs : s.size ≤ 1000) : f_label_Quote.f s = some ⟨(34 :: body (L s) ++ [34]).toArray⟩ := by
  unfold f_label_Quote.f
  have h1 : f_strings_Builder_WriteByte_1bc.f 34 = some [34] := by cbv
  have h2 := quote_loop s hs s.size 0 [34] (by omega) (by simp; omega)
  have hb := body_le (L s)
  rw [size_L] at hb
  have e : ([34] ++ ints (body ((L s).drop 0))) ++ [34] = ints (34 :: body (L s) ++ [34]) := by simp [ints]
  rw [h1, sb, show (0 : Int) = ((0 : Nat) : Int) from rfl, h2, sb, wb2 (by simp [ints]; omega), sb, e]
  have h3 : f_strings_Builder_String_378.f (ints (34 :: body (L s) ++ [34])) = some () := by
    unfold f_strings_Builder_String_378.f
    rw [chkB (by simp [ints]), chkB ⟨by simp [ints], by simp [ints]; omega, bytesOK_ints _⟩]
  rw [h3, sb, strOf_ints]
theorem if34 {c : UInt8} {b : Bool} (hb : b = decide (c = 34 ∨ c = 92)) : ((if (((c.toNat : Int)) == (34 : Int)) = true then (some true) else (some (((c.toNat : Int)) == (92 : Int)))) : Option Bool) = some b := by
  subst hb
  by_cases h : c = 34
  · subst h; decide
  · have n34 : ¬ (((c.toNat : Int) == (34 : Int)) = true) := fun h' => h ((u8_eq (n := 34) (by omega)).1 h')
    rw [if_neg n34]
    by_cases h2 : c = 92
    · subst h2; decide
    · have : ¬ (((c.toNat : Int) == (92 : Int)) = true) := fun h' => h2 ((u8_eq (n := 92) (by omega)).1 h')
      simp only [Bool.not_eq_true] at this
      rw [this]; simp [h, h2]
theorem ref_loop (s : ByteArray) (hs : s.size ≤ 1000) : ∀ (n i : Nat) (x : ByteArray), i + n = s.size → x.size + 2 * n ≤ 10000 →
    ∃ r, f_pluvialref10_Quote.l0 s x (i : Int) = some r ∧ L r = L x ++ body ((L s).drop i) := by
  intro n
  induction n with
  | zero =>
    intro i x h hx
    rw [f_pluvialref10_Quote.l0]
    have hd : (L s).drop i = [] := List.drop_eq_nil_of_le (by rw [size_L]; omega)
    rw [if_neg (by simp; omega), hd]
    exact ⟨x, rfl, by simp [body]⟩
  | succ n ih =>
    intro i x h hx
    rw [f_pluvialref10_Quote.l0]
    have hi : i < (L s).length := by rw [size_L]; omega
    have hbt : bt s (i : Int) = (((L s)[i]).toNat : Int) := bt_L (List.getElem?_eq_getElem hi)
    have hw : IntKind.i64.wrap ((i : Int) + 1) = ((i + 1 : Nat) : Int) := by rw [wrap64 (by omega) (by omega)]; omega
    have hex : L (s.extract (Int.toNat (i : Int)) (Int.toNat ((i + 1 : Nat) : Int))) = [(L s)[i]] := by
      rw [L_extract]
      simp only [Int.toNat_natCast]
      rw [drop_cons hi]; simp
    have hexs : (s.extract (Int.toNat (i : Int)) (Int.toNat ((i + 1 : Nat) : Int))).size = 1 := by rw [← size_L, hex]; rfl
    rw [if_pos (by simp; omega), chkB (by omega), drop_cons hi, body_cons, hbt, hw]
    generalize s.extract (Int.toNat (i : Int)) (Int.toNat ((i + 1 : Nat) : Int)) = ex at hex hexs
    generalize (L s)[i] = c at *
    by_cases h10 : c = 10
    · subst h10
      rw [if_pos (by decide), chkB (by have : (⟨#[92, 110]⟩ : ByteArray).size = 2 := rfl; rw [this]; omega)]
      simp only [sb]
      obtain ⟨r, h1, h2⟩ := ih (i + 1) (x ++ ⟨#[92, 110]⟩) (by omega) (by rw [ByteArray.size_append]; show x.size + 2 + _ ≤ _; omega)
      exact ⟨r, h1, by rw [h2, L_append]; simp [esc, L_mk]⟩
    · have n10 : ¬ (((c.toNat : Int) == (10 : Int)) = true) := fun h => h10 ((u8_eq (n := 10) (by omega)).1 h)
      rw [if_neg n10]
      by_cases h34 : c = 34 ∨ c = 92
      · rw [if34 (b := true) (by simp [h34]), sb, if_pos rfl, chkB (by have : (⟨#[92]⟩ : ByteArray).size = 1 := rfl; rw [this]; omega)]
        simp only [sb]
        have hsz : (x ++ (⟨#[92]⟩ : ByteArray)).size = x.size + 1 := by rw [ByteArray.size_append]; rfl
        rw [chkB (by omega), chkB (by rw [hsz, hexs]; omega)]
        simp only [sb]
        obtain ⟨r, h1, h2⟩ := ih (i + 1) (x ++ ⟨#[92]⟩ ++ ex) (by omega) (by rw [ByteArray.size_append, hsz, hexs]; omega)
        refine ⟨r, h1, ?_⟩
        have he : esc c = [92, c] := by unfold esc; rw [if_neg h10, if_pos h34]
        rw [h2, L_append, L_append, hex, he]; simp [L_mk]
      · rw [if34 (b := false) (by simp [h34]), sb, if_neg (by simp)]
        simp only [sb]
        rw [chkB (by omega), chkB (by rw [hexs]; omega)]
        simp only [sb]
        obtain ⟨r, h1, h2⟩ := ih (i + 1) (x ++ ex) (by omega) (by rw [ByteArray.size_append, hexs]; omega)
        refine ⟨r, h1, ?_⟩
        have he : esc c = [c] := by unfold esc; rw [if_neg h10, if_neg h34]
        rw [h2, L_append, hex, he]; simp
theorem ref_eq (s : ByteArray) (hs : s.size ≤ 1000) : f_pluvialref10_Quote.f s = some ⟨(34 :: body (L s) ++ [34]).toArray⟩ := by
  unfold f_pluvialref10_Quote.f
  obtain ⟨r, h1, h2⟩ := ref_loop s hs s.size 0 ⟨#[34]⟩ (by omega) (by show 1 + _ ≤ _; omega)
  have hb := body_le (L s)
  rw [size_L] at hb
  have hr : r.size = 1 + (body (L s)).length := by rw [← size_L, h2]; simp
  rw [show (0 : Int) = ((0 : Nat) : Int) from rfl, h1, sb, chkB (by have : (⟨#[34]⟩ : ByteArray).size = 1 := rfl; rw [hr, this]; omega)]
  congr 1
  apply ext_L
  rw [L_append, h2]; simp [L_mk]
def U : List UInt8 → List UInt8 → Option (List UInt8 × List UInt8)
  | [], _ => none
  | c :: r, acc => if c = 34 then some (acc, r) else if c = 10 then none else if c ≠ 92 then U r (acc ++ [c]) else
    match r with
    | [] => none
    | d :: r => if d = 110 then U r (acc ++ [10]) else if d = 34 ∨ d = 92 then U r (acc ++ [d]) else none
theorem U_34 (r acc : List UInt8) : U (34 :: r) acc = some (acc, r) := by rw [U.eq_def]; simp
theorem U_10 (r acc : List UInt8) : U (10 :: r) acc = none := by rw [U.eq_def]; simp
theorem U_c {c : UInt8} (h1 : c ≠ 34) (h2 : c ≠ 10) (h3 : c ≠ 92) (r acc : List UInt8) : U (c :: r) acc = U r (acc ++ [c]) := by rw [U.eq_def]; simp [h1, h2, h3]
theorem U_92 (acc : List UInt8) : U [92] acc = none := by rw [U.eq_def]; simp
theorem U_92n (r acc : List UInt8) : U (92 :: 110 :: r) acc = U r (acc ++ [10]) := by rw [U.eq_def]; simp
theorem U_92c {d : UInt8} (h : d = 34 ∨ d = 92) (r acc : List UInt8) : U (92 :: d :: r) acc = U r (acc ++ [d]) := by
  rw [U.eq_def]
  have : d ≠ 110 := by rintro rfl; revert h; decide
  simp [this, h]
theorem U_92x {d : UInt8} (h0 : d ≠ 110) (h : ¬ (d = 34 ∨ d = 92)) (r acc : List UInt8) : U (92 :: d :: r) acc = none := by
  rw [U.eq_def]
  simp [h0, h]
theorem U_body : ∀ (l acc m : List UInt8), U (body l ++ 34 :: m) acc = some (acc ++ l, m) := by
  intro l
  induction l with
  | nil => intro acc m; show U (34 :: m) acc = _; rw [U_34]; simp
  | cons c l ih =>
    intro acc m
    rw [body_cons, List.append_assoc]
    unfold esc
    split
    · rename_i h; subst h
      simp only [List.cons_append, List.nil_append]
      rw [U_92n, ih]; simp
    · split
      · rename_i h10 h
        simp only [List.cons_append, List.nil_append]
        rw [U_92c h, ih]; simp
      · rename_i h10 h
        simp only [List.cons_append, List.nil_append]
        rw [U_c (fun e => h (.inl e)) h10 (fun e => h (.inr e)), ih]; simp
theorem U_back : ∀ (n : Nat) (l acc t m : List UInt8), l.length ≤ n → U l acc = some (t, m) → ∃ u, t = acc ++ u ∧ l = body u ++ 34 :: m := by
  intro n
  induction n with
  | zero =>
    intro l acc t m hn h
    obtain rfl : l = [] := List.length_eq_zero_iff.1 (by omega)
    simp [U] at h
  | succ n ih =>
    intro l acc t m hn h
    cases l with
    | nil => simp [U] at h
    | cons c r =>
      simp only [List.length_cons] at hn
      by_cases h34 : c = 34
      · subst h34; rw [U_34] at h; simp at h; obtain ⟨rfl, rfl⟩ := h; exact ⟨[], by simp, by simp [body]⟩
      by_cases h10 : c = 10
      · subst h10; rw [U_10] at h; simp at h
      by_cases h92 : c = 92
      · subst h92
        cases r with
        | nil => rw [U_92] at h; simp at h
        | cons d r =>
          simp only [List.length_cons] at hn
          by_cases h110 : d = 110
          · subst h110
            rw [U_92n] at h
            obtain ⟨u, e1, e2⟩ := ih r _ t m (by omega) h
            exact ⟨10 :: u, by rw [e1]; simp, by rw [body_cons, e2]; simp [esc]⟩
          by_cases hd : d = 34 ∨ d = 92
          · rw [U_92c hd] at h
            obtain ⟨u, e1, e2⟩ := ih r _ t m (by omega) h
            have hd10 : d ≠ 10 := by rintro rfl; revert hd; decide
            have he : esc d = [92, d] := by unfold esc; rw [if_neg hd10, if_pos hd]
            exact ⟨d :: u, by rw [e1]; simp, by rw [body_cons, e2, he]; simp⟩
          · rw [U_92x h110 hd] at h; simp at h
      · rw [U_c h34 h10 h92] at h
        obtain ⟨u, e1, e2⟩ := ih r _ t m (by omega) h
        have he : esc c = [c] := by unfold esc; rw [if_neg h10, if_neg (fun h => h.elim h34 h92)]
        exact ⟨c :: u, by rw [e1]; simp, by rw [body_cons, e2, he]; simp⟩
theorem neq_u8 {c : UInt8} {n : Nat} (hn : n < 256) (h : c ≠ UInt8.ofNat n) : ((c.toNat : Int) == (n : Int)) = false := by
  cases e : ((c.toNat : Int) == (n : Int)) with
  | false => rfl
  | true => exact absurd ((u8_eq hn).1 e) h
def got (s : ByteArray) : Option (List UInt8 × List UInt8) → (ByteArray × ByteArray × Bool) ⊕ Unit → Prop
  | some (t, m), .inl (a, b, ok) => L a = t ∧ L b = m ∧ ok = true
  | none, .inl (a, b, ok) => L a = [] ∧ L b = [] ∧ ok = false
  | none, .inr _ => True
  | some _, .inr _ => False
theorem unq_loop (s : ByteArray) (hs : s.size ≤ 10000) : ∀ (n i : Nat) (acc : List UInt8), s.size - i ≤ n → acc.length ≤ 10000 + i →
    ∃ o, f_label_Unquote.l0 s (ints acc) (i : Int) = some o ∧ got s (U ((L s).drop i) acc) o := by
  intro n
  induction n with
  | zero =>
    intro i acc h hx
    rw [f_label_Unquote.l0]
    have hd : (L s).drop i = [] := List.drop_eq_nil_of_le (by rw [size_L]; omega)
    rw [if_neg (by simp; omega), hd]
    exact ⟨_, rfl, by simp [U, got]⟩
  | succ n ih =>
    intro i acc h hx
    by_cases hlt : i < s.size
    case neg =>
      rw [f_label_Unquote.l0]
      have hd : (L s).drop i = [] := List.drop_eq_nil_of_le (by rw [size_L]; omega)
      rw [if_neg (by simp; omega), hd]
      exact ⟨_, rfl, by simp [U, got]⟩
    rw [f_label_Unquote.l0]
    have hi : i < (L s).length := by rw [size_L]; omega
    have hbt : bt s (i : Int) = (((L s)[i]).toNat : Int) := bt_L (List.getElem?_eq_getElem hi)
    have hw : IntKind.i64.wrap ((i : Int) + 1) = ((i + 1 : Nat) : Int) := by rw [wrap64 (by omega) (by omega)]; omega
    have hrest : L (s.extract (Int.toNat ((i + 1 : Nat) : Int)) (Int.toNat (s.size : Int))) = (L s).drop (i + 1) := by
      rw [L_extract]; simp only [Int.toNat_natCast]
      rw [List.take_of_length_le (by simp [size_L])]
    have hil : (ints acc).length = acc.length := by simp [ints]
    rw [if_pos (by simp; omega), chkB (by omega), drop_cons hi, hbt, hw]
    have hstep : ∀ (k : Nat) (acc2 : List UInt8), i < k → acc2.length ≤ 10000 + k → ∃ o, f_label_Unquote.l0 s (ints acc2) (k : Int) = some o ∧ got s (U ((L s).drop k) acc2) o := fun k acc2 hk h2 => ih k acc2 (by omega) h2
    generalize hc : (L s)[i] = c at *
    by_cases h34 : c = 34
    · subst h34
      rw [if_pos (by decide), chkB (by omega)]
      refine ⟨_, rfl, ?_⟩
      rw [U_34]
      exact ⟨by rw [L_strOf], hrest, rfl⟩
    have e34 : ¬ (((c.toNat : Int) == (34 : Int)) = true) := fun h => h34 ((u8_eq (n := 34) (by omega)).1 h)
    rw [if_neg e34]
    by_cases h10 : c = 10
    · subst h10
      rw [if_pos (by decide), U_10]
      exact ⟨_, rfl, rfl, rfl, rfl⟩
    have e10 : ¬ (((c.toNat : Int) == (10 : Int)) = true) := fun h => h10 ((u8_eq (n := 10) (by omega)).1 h)
    rw [if_neg e10]
    by_cases h92 : c = 92
    case neg =>
      have e92 : ((c.toNat : Int) != (92 : Int)) = true := by have := neq_u8 (n := 92) (by omega) h92; simp [bne]; simpa using this
      rw [if_pos e92, chkB (by rw [hil]; simp; omega)]
      simp only [sb]
      rw [U_c h34 h10 h92, show ints acc ++ [(c.toNat : Int)] = ints (acc ++ [c]) from by simp [ints], hw]
      exact hstep (i + 1) _ (by omega) (by simp; omega)
    subst h92
    rw [if_neg (by decide)]
    by_cases hend : i + 1 = s.size
    · rw [if_pos (by rw [hend]; simp)]
      have hd : (L s).drop (i + 1) = [] := List.drop_eq_nil_of_le (by rw [size_L]; omega)
      rw [hd, U_92]
      exact ⟨_, rfl, rfl, rfl, rfl⟩
    have hi1 : i + 1 < (L s).length := by rw [size_L]; omega
    have hbt1 : bt s ((i + 1 : Nat) : Int) = (((L s)[i + 1]).toNat : Int) := bt_L (List.getElem?_eq_getElem hi1)
    have hw1 : IntKind.i64.wrap (((i + 1 : Nat) : Int) + 1) = ((i + 2 : Nat) : Int) := by rw [wrap64 (by omega) (by omega)]; omega
    rw [if_neg (by simp; omega), chkB (by omega), drop_cons hi1, hbt1]
    generalize (L s)[i + 1] = d at *
    by_cases h110 : d = 110
    · subst h110
      rw [if_pos (by decide), chkB (by rw [hil]; simp; omega)]
      simp only [sb]
      rw [U_92n, show ints acc ++ [10] = ints (acc ++ [10]) from by simp [ints], hw1]
      exact hstep (i + 2) _ (by omega) (by simp; omega)
    have e110 : ¬ (((d.toNat : Int) == (110 : Int)) = true) := fun h => h110 ((u8_eq (n := 110) (by omega)).1 h)
    rw [if_neg e110]
    by_cases hd : d = 34 ∨ d = 92
    · rw [if34 (b := true) (by simp [hd]), sb, if_pos rfl, chkB (by rw [hil]; simp; omega)]
      simp only [sb]
      rw [U_92c hd, show ints acc ++ [(d.toNat : Int)] = ints (acc ++ [d]) from by simp [ints], hw1]
      exact hstep (i + 2) _ (by omega) (by simp; omega)
    · rw [if34 (b := false) (by simp [hd]), sb, if_neg (by simp)]
      rw [U_92x h110 hd]
      exact ⟨_, rfl, rfl, rfl, rfl⟩
def Unq (s : ByteArray) (a b : ByteArray) (ok : Bool) : Prop :=
  (∃ t m, L s = 34 :: body t ++ 34 :: m ∧ L a = t ∧ L b = m ∧ ok = true) ∨ (L a = [] ∧ L b = [] ∧ ok = false)
theorem unq_eq (s : ByteArray) (hs : s.size ≤ 10000) : ∃ a b ok, f_label_Unquote.f s = some (a, b, ok) ∧ Unq s a b ok ∧ (∀ r t m, L s = 34 :: r → U r [] = some (t, m) → L a = t ∧ L b = m ∧ ok = true) := by
  unfold f_label_Unquote.f
  by_cases h0 : s.size = 0
  · have hl : L s = [] := List.length_eq_zero_iff.1 (by rw [size_L]; exact h0)
    have : (s.toList == (⟨#[]⟩ : ByteArray).toList) = true := by rw [toList_L, toList_L, hl]; rfl
    rw [if_pos this, sb, if_pos rfl]
    exact ⟨_, _, _, rfl, .inr ⟨rfl, rfl, rfl⟩, fun r t m h => by rw [hl] at h; simp at h⟩
  · have hi : 0 < (L s).length := by rw [size_L]; omega
    have hne : ¬ ((s.toList == (⟨#[]⟩ : ByteArray).toList) = true) := by
      rw [toList_L, toList_L]
      intro h
      have h' : L s = [] := by simpa using h
      rw [h'] at hi; simp at hi
    have hbt : bt s 0 = (((L s)[0]).toNat : Int) := bt_L (i := 0) (List.getElem?_eq_getElem hi)
    have hd : L s = (L s)[0] :: (L s).drop 1 := by have := drop_cons hi; simpa using this
    rw [if_neg hne, chkB (by omega), hbt]
    simp only [sb]
    by_cases h34 : (L s)[0] = 34
    · rw [h34]
      rw [if_neg (by decide)]
      obtain ⟨o, h1, h2⟩ := unq_loop s hs s.size 1 [] (by omega) (by simp)
      have h1' : f_label_Unquote.l0 s [] 1 = some o := h1
      rw [h1', sb]
      rw [h34] at hd
      generalize hu : U ((L s).drop 1) [] = ur at h2
      cases ur with
      | none =>
        cases o with
        | inl p =>
          obtain ⟨a, b, ok⟩ := p
          exact ⟨a, b, ok, rfl, .inr h2, fun r t m h hU => by rw [hd] at h; simp only [List.cons.injEq, true_and] at h; rw [← h, hu] at hU; simp at hU⟩
        | inr _ => exact ⟨_, _, _, rfl, .inr ⟨rfl, rfl, rfl⟩, fun r t m h hU => by rw [hd] at h; simp only [List.cons.injEq, true_and] at h; rw [← h, hu] at hU; simp at hU⟩
      | some q =>
        obtain ⟨t, m⟩ := q
        cases o with
        | inl p =>
          obtain ⟨a, b, ok⟩ := p
          obtain ⟨g1, g2, g3⟩ := h2
          obtain ⟨u, e1, e2⟩ := U_back _ _ _ _ _ (Nat.le_refl _) hu
          refine ⟨a, b, ok, rfl, .inl ⟨t, m, ?_, g1, g2, g3⟩, fun r t' m' h hU => ?_⟩
          · rw [hd, e2]; simp at e1; rw [e1]; simp
          · rw [hd] at h; simp only [List.cons.injEq, true_and] at h; rw [← h, hu] at hU; simp at hU; obtain ⟨rfl, rfl⟩ := hU; exact ⟨g1, g2, g3⟩
        | inr _ => exact h2.elim
    · have hne' : (((((L s)[0]).toNat : Int)) != (34 : Int)) = true := by have := neq_u8 (n := 34) (by omega) h34; simp [bne]; simpa using this
      rw [if_pos hne']
      exact ⟨_, _, _, rfl, .inr ⟨rfl, rfl, rfl⟩, fun r t m h => by rw [hd] at h; simp only [List.cons.injEq] at h; exact absurd h.1 h34⟩
theorem beq_self_L {a b : ByteArray} (h : L a = L b) : (a.toList == b.toList) = true := by rw [toList_L, toList_L, h]; simp
end Go.Proofs.Ytjfhobijgkccdaa.PvGA2
set_option linter.unusedVariables false
set_option linter.unusedSimpArgs false
namespace Go.Proofs.Ytjfhobijgkccdaa.PvGA2
open Go Go.Pv Go.Pv.GS
theorem word_inj' {a b : ByteArray} {x y : List UInt8} (ha : a.size < 256) (hb : b.size < 256) (h : word a ++ x = word b ++ y) : a = b ∧ x = y := by
  have h0 : UInt8.ofNat a.size = UInt8.ofNat b.size := by
    have := congrArg List.head? h
    simpa [word] using this
  have hs : a.size = b.size := by
    have := congrArg UInt8.toNat h0
    rw [UInt8.toNat_ofNat', UInt8.toNat_ofNat', Nat.mod_eq_of_lt (by omega), Nat.mod_eq_of_lt (by omega)] at this
    exact this
  obtain ⟨h1, h2⟩ := List.append_inj h (by rw [word_len, word_len, hs])
  simp only [word, List.cons.injEq] at h1
  exact ⟨ext_L h1.2, h2⟩
def wordsL (ws : List ByteArray) : List UInt8 := ws.flatMap word
theorem wordsL_cons (w : ByteArray) (ws : List ByteArray) : wordsL (w :: ws) = word w ++ wordsL ws := by simp [wordsL]
theorem wordsL_inj : ∀ {a b : List ByteArray}, (∀ x ∈ a, x.size < 256) → (∀ x ∈ b, x.size < 256) → wordsL a = wordsL b → a = b
  | [], [], _, _, _ => rfl
  | [], y :: b, _, _, h => by rw [wordsL_cons, word] at h; simp [wordsL] at h
  | x :: a, [], _, _, h => by rw [wordsL_cons, word] at h; simp [wordsL] at h
  | x :: a, y :: b, ha, hb, h => by
    rw [wordsL_cons, wordsL_cons] at h
    obtain ⟨h1, h2⟩ := word_inj' (ha x (by simp)) (hb y (by simp)) h
    rw [h1, wordsL_inj (fun z hz => ha z (by simp [hz])) (fun z hz => hb z (by simp [hz])) h2]
def flatP (l : List TLabel) : List ByteArray := l.flatMap fun x => [x.f0, x.f1]
def pairsL : List ByteArray → List TLabel
  | a :: b :: r => ⟨a, b⟩ :: pairsL r
  | _ => []
theorem pairs_flat : ∀ l : List TLabel, pairsL (flatP l) = l
  | [] => rfl
  | x :: l => by
    have : flatP (x :: l) = x.f0 :: x.f1 :: flatP l := by simp [flatP]
    rw [this, pairsL, pairs_flat l]
theorem keyL_flat : ∀ l : List TLabel, keyL l = wordsL (flatP l)
  | [] => rfl
  | x :: l => by
    have : flatP (x :: l) = x.f0 :: x.f1 :: flatP l := by simp [flatP]
    rw [this, wordsL_cons, wordsL_cons, keyL_cons, keyL_flat l]
theorem flat_pairs : ∀ (ws : List ByteArray), ws.length % 2 = 0 → flatP (pairsL ws) = ws
  | [], _ => rfl
  | [a], h => by simp at h
  | a :: b :: r, h => by
    have : flatP (pairsL (a :: b :: r)) = a :: b :: flatP (pairsL r) := by simp [flatP, pairsL]
    rw [this, flat_pairs r (by simp at h; omega)]
theorem L_cons_of {s : ByteArray} (h : 0 < s.size) : ∃ c r, L s = c :: r ∧ r.length = s.size - 1 ∧ bt s 0 = (c.toNat : Int) := by
  cases hl : L s with
  | nil => have := size_L s; rw [hl] at this; simp at this; omega
  | cons c r =>
    refine ⟨c, r, rfl, ?_, bt_L (i := 0) (by rw [hl]; rfl)⟩
    have := size_L s; rw [hl] at this; simp at this; omega
theorem from_l0 : ∀ (n : Nat) (s : ByteArray) (acc : List ByteArray), s.size ≤ n → s.size ≤ 5000 → acc.length + s.size ≤ 10000 →
    (f_label_From.l0 s acc = some (.inl ([], 6)) ∧ ∀ ws : List ByteArray, (∀ w ∈ ws, w.size < 256) → L s ≠ wordsL ws) ∨ (∃ ws, f_label_From.l0 s acc = some (.inr (acc ++ ws)) ∧ (∀ w ∈ ws, w.size < 256) ∧ L s = wordsL ws ∧ ws.length ≤ s.size) := by
  intro n
  induction n with
  | zero =>
    intro s acc hn h5 ha
    rw [f_label_From.l0, if_neg (by rw [decide_eq_true_eq]; omega)]
    have : L s = [] := List.length_eq_zero_iff.1 (by rw [size_L]; omega)
    exact .inr ⟨[], by simp, by simp, by rw [this]; rfl, by simp⟩
  | succ n ih =>
    intro s acc hn h5 ha
    by_cases h0 : 0 < s.size
    case neg =>
      rw [f_label_From.l0, if_neg (by rw [decide_eq_true_eq]; omega)]
      have : L s = [] := List.length_eq_zero_iff.1 (by rw [size_L]; omega)
      exact .inr ⟨[], by simp, by simp, by rw [this]; rfl, by simp⟩
    obtain ⟨c, r, hc, hr, hbt⟩ := L_cons_of h0
    have hcl := c.toNat_lt
    have hword : ∀ ws : List ByteArray, (∀ w ∈ ws, w.size < 256) → L s = wordsL ws → ∃ w ws', ws = w :: ws' ∧ w.size = c.toNat ∧ r = L w ++ wordsL ws' := fun ws hw e => by
      cases ws with
      | nil => rw [hc] at e; simp [wordsL] at e
      | cons w ws' =>
        rw [hc, wordsL_cons, word, List.cons_append, List.cons.injEq] at e
        refine ⟨w, ws', rfl, ?_, e.2⟩
        have := hw w (by simp)
        rw [e.1, UInt8.toNat_ofNat', Nat.mod_eq_of_lt (by omega)]
    rw [f_label_From.l0, if_pos (by simp; omega), chkB (by omega), hbt, wrap64 (n := (c.toNat : Int)) (by omega) (by omega), wrap64 (n := (s.size : Int) - 1) (by omega) (by omega)]
    by_cases hle : (c.toNat : Int) > (s.size : Int) - 1
    · rw [if_pos (by simpa using hle)]
      refine .inl ⟨rfl, fun ws hw e => ?_⟩
      obtain ⟨w, ws', _, h1, h2⟩ := hword ws hw e
      have := congrArg List.length h2
      rw [List.length_append, size_L] at this
      omega
    · have e1 : Int.toNat ((1 : Int) + (c.toNat : Int)) = 1 + c.toNat := by omega
      have l1 : L (s.extract (Int.toNat 1) (Int.toNat ((1 : Int) + (c.toNat : Int)))) = r.take c.toNat := by
        rw [L_extract, e1, hc]; simp
      have l2 : L (s.extract (Int.toNat ((1 : Int) + (c.toNat : Int))) (Int.toNat (s.size : Int))) = r.drop c.toNat := by
        rw [L_extract, e1, hc, Int.toNat_natCast, Nat.add_comm 1 c.toNat, List.drop_succ_cons, List.take_of_length_le (by simp; omega)]
      have s1 : (s.extract (Int.toNat 1) (Int.toNat ((1 : Int) + (c.toNat : Int)))).size = c.toNat := by rw [← size_L, l1, List.length_take]; omega
      have s2 : (s.extract (Int.toNat ((1 : Int) + (c.toNat : Int))) (Int.toNat (s.size : Int))).size = s.size - 1 - c.toNat := by rw [← size_L, l2, List.length_drop]; omega
      rw [if_neg (by simpa using hle), wrap64 (n := (1 : Int) + (c.toNat : Int)) (by omega) (by omega), chkB (by omega), chkB (by simp; omega), chkB (by omega)]
      generalize s.extract (Int.toNat 1) (Int.toNat ((1 : Int) + (c.toNat : Int))) = w0 at *
      generalize s.extract (Int.toNat ((1 : Int) + (c.toNat : Int))) (Int.toNat (s.size : Int)) = rest at *
      rcases ih rest (acc ++ [w0]) (by omega) (by omega) (by simp; omega) with ⟨g1, g2⟩ | ⟨ws, g1, g2, g3, g4⟩
      · refine .inl ⟨g1, fun ws hw e => ?_⟩
        obtain ⟨w, ws', rfl, h1, h2⟩ := hword ws hw e
        refine g2 ws' (fun z hz => hw z (by simp [hz])) ?_
        rw [l2, h2, ← h1, ← size_L, List.drop_left]
      · refine .inr ⟨w0 :: ws, by rw [g1]; simp, fun z hz => ?_, ?_, by simp; omega⟩
        · rcases List.mem_cons.1 hz with rfl | hz
          · omega
          · exact g2 z hz
        · rw [wordsL_cons, word, ← g3, l1, l2, s1, hc]
          have : UInt8.ofNat c.toNat = c := UInt8.ofNat_toNat
          rw [this, List.cons_append, List.take_append_drop]
theorem from_l1 (ws : List ByteArray) (hl : ws.length ≤ 10000) : ∀ (m : Nat) (pre suf : List ByteArray) (o : List TLabel) (i : Int), suf.length = 2 * m → ws = pre ++ suf → i = (pre.length : Int) → o.length ≤ pre.length → f_label_From.l1 ws o i = some (o ++ pairsL suf) := by
  intro m
  induction m with
  | zero =>
    intro pre suf o i hm h1 hi ho
    have : suf = [] := List.length_eq_zero_iff.1 hm
    subst this
    rw [f_label_From.l1, if_neg (by rw [h1]; simp [hi])]; simp [pairsL]
  | succ m ih =>
    intro pre suf o i hm h1 hi ho
    match suf, hm with
    | a :: b :: suf, hm =>
      have hlen : ws.length = pre.length + (suf.length + 2) := by rw [h1]; simp
      rw [f_label_From.l1, if_pos (by simp; omega), at_mid h1 hi, sb, wrap64 (n := i + 1) (by omega) (by omega), at_mid (pre := pre ++ [a]) (suf := suf) (x := b) (by rw [h1]; simp) (by simp; omega), sb, chkB (by simp; omega), wrap64 (n := i + 2) (by omega) (by omega)]
      rw [ih (pre ++ [a, b]) suf _ (i + 2) (by simp at hm; omega) (by rw [h1]; simp) (by simp; omega) (by simp; omega), pairsL]
      simp
theorem from_spec (s : ByteArray) (hs : s.size ≤ 5000) : ∃ x e, f_label_From.f s = some (x, e) ∧ ((e = 0 ∧ chkC x = 0 ∧ L s = keyL x) ∨ (e = 6 ∧ x = [] ∧ ∀ x', chkC x' = 0 → L s ≠ keyL x')) := by
  unfold f_label_From.f
  have flat256 : ∀ x', chkC x' = 0 → ∀ w ∈ flatP x', w.size < 256 := fun x' h w hw => by
    obtain ⟨z, hz, hw⟩ := List.mem_flatMap.1 hw
    have := right_short (chkC_zero h).2 z hz
    simp at hw
    rcases hw with rfl | rfl
    · have := this.1; omega
    · have := this.2; omega
  rcases from_l0 s.size s [] (Nat.le_refl _) hs (by simp; omega) with ⟨g1, g2⟩ | ⟨ws, g1, g2, g3, g4⟩
  · rw [g1, sb]
    exact ⟨[], 6, rfl, .inr ⟨rfl, rfl, fun x' h e => g2 (flatP x') (flat256 x' h) (by rw [e, keyL_flat])⟩⟩
  · rw [g1, sb, List.nil_append]
    dsimp only
    have ht : Int.tmod (ws.length : Int) 2 = ((ws.length % 2 : Nat) : Int) := by rw [Int.tmod_eq_emod_of_nonneg (by omega)]; omega
    have huniq : ∀ x', chkC x' = 0 → L s = keyL x' → ws = flatP x' := fun x' h e => wordsL_inj g2 (flat256 x' h) (by rw [← g3, e, keyL_flat])
    have heven : ∀ x' : List TLabel, (flatP x').length % 2 = 0 := fun x' => by
      induction x' with
      | nil => rfl
      | cons z x' ih =>
        have : flatP (z :: x') = z.f0 :: z.f1 :: flatP x' := by simp [flatP]
        rw [this]; simp; omega
    rw [ht]
    by_cases hodd : ws.length % 2 = 1
    · rw [if_pos (by simp; omega)]
      refine ⟨[], 6, rfl, .inr ⟨rfl, rfl, fun x' h e => ?_⟩⟩
      have := huniq x' h e
      have h2 := heven x'
      rw [← this] at h2; omega
    · rw [if_neg (by simp; omega), from_l1 ws (by omega) (ws.length / 2) [] ws [] 0 (by omega) rfl rfl (by simp), sb, List.nil_append, lcheck, sb]
      by_cases hc : chkC (pairsL ws) = 0
      · rw [if_neg (by simpa using hc)]
        exact ⟨_, 0, rfl, .inl ⟨rfl, hc, by rw [g3, keyL_flat, flat_pairs ws (by omega)]⟩⟩
      · rw [if_pos (by simpa using hc)]
        refine ⟨[], 6, rfl, .inr ⟨rfl, rfl, fun x' h e => ?_⟩⟩
        have := huniq x' h e
        rw [this, pairs_flat] at hc
        exact hc h
theorem byteStr (s : ByteArray) (h : s.size ≤ 64) : L (strOf [IntKind.u8.wrap (s.size : Int)]) = [UInt8.ofNat s.size] := by
  have : [IntKind.u8.wrap (s.size : Int)] = ints [UInt8.ofNat s.size] := by
    simp only [ints, List.map_cons, List.map_nil, UInt8.toNat_ofNat']
    rw [Nat.mod_eq_of_lt (by omega)]
    congr 1
    simp only [IntKind.wrap, IntKind.signed, IntKind.bits]; simp; omega
  rw [this, L_strOf]
theorem rkey_l0 (l : List TLabel) (hl : l.length ≤ 16) (hs : ∀ x ∈ l, Short x) : ∀ (suf pre : List TLabel) (o : ByteArray) (i : Int), l = pre ++ suf → i = (pre.length : Int) → o.size ≤ 130 * pre.length →
    ∃ r, f_pluvialref10_Key.l0 l o i = some r ∧ L r = L o ++ keyL suf := by
  intro suf
  induction suf with
  | nil => intro pre o i h1 hi ho; rw [f_pluvialref10_Key.l0, if_neg (by rw [h1]; simp [hi])]; exact ⟨o, rfl, by simp [keyL]⟩
  | cons x suf ih =>
    intro pre o i h1 hi ho
    have hlen : l.length = pre.length + (suf.length + 1) := by rw [h1]; simp
    have hx := hs x (by rw [h1]; simp)
    have hx0 := hx.1
    have hx1 := hx.2
    have b0 := byteStr x.f0 hx0
    have b1 := byteStr x.f1 hx1
    have z0 : (strOf [IntKind.u8.wrap (x.f0.size : Int)]).size = 1 := by rw [← size_L, b0]; rfl
    have z1 : (strOf [IntKind.u8.wrap (x.f1.size : Int)]).size = 1 := by rw [← size_L, b1]; rfl
    have m1 : (o ++ strOf [IntKind.u8.wrap (x.f0.size : Int)]).size = o.size + 1 := by rw [ByteArray.size_append, z0]
    have m2 : (o ++ strOf [IntKind.u8.wrap (x.f0.size : Int)] ++ x.f0).size = o.size + 1 + x.f0.size := by rw [ByteArray.size_append, m1]
    have m3 : (o ++ strOf [IntKind.u8.wrap (x.f0.size : Int)] ++ x.f0 ++ strOf [IntKind.u8.wrap (x.f1.size : Int)]).size = o.size + 1 + x.f0.size + 1 := by rw [ByteArray.size_append, m2, z1]
    have m4 : (o ++ strOf [IntKind.u8.wrap (x.f0.size : Int)] ++ x.f0 ++ strOf [IntKind.u8.wrap (x.f1.size : Int)] ++ x.f1).size = o.size + 1 + x.f0.size + 1 + x.f1.size := by rw [ByteArray.size_append, m3]
    rw [f_pluvialref10_Key.l0, if_pos (by simp; omega), at_mid h1 hi, sb, chkB (by rw [z0]; omega), chkB (by rw [m1]; omega), chkB (by rw [m2, z1]; omega), chkB (by rw [m3]; omega), wrap64 (by omega) (by omega)]
    obtain ⟨r, e, h2⟩ := ih (pre ++ [x]) _ (i + 1) (by simp [h1]) (by simp; omega) (by rw [m4]; simp; omega)
    refine ⟨r, e, ?_⟩
    rw [h2, L_append, L_append, L_append, L_append, b0, b1, keyL_cons, word, word]
    simp
theorem rkey (l : List TLabel) (hl : l.length ≤ 16) (hs : ∀ x ∈ l, Short x) : f_pluvialref10_Key.f l = some ⟨(keyL l).toArray⟩ := by
  unfold f_pluvialref10_Key.f
  obtain ⟨r, e, h⟩ := rkey_l0 l hl hs l [] (⟨#[]⟩ : ByteArray) 0 rfl rfl (by simp [ByteArray.size])
  rw [e, sb]
  congr 1
  apply ext_L
  rw [h]; simp [L]
def itemL (x : TLabel) : List UInt8 := L x.f0 ++ 61 :: 34 :: (body (L x.f1) ++ [34])
def joinL : List (List UInt8) → List UInt8
  | [] => []
  | a :: r => a ++ r.flatMap (fun b => 44 :: b)
def printL (l : List TLabel) : List UInt8 := 123 :: (joinL (l.map itemL) ++ [125])
theorem joinL_snoc (a : List (List UInt8)) (x : List UInt8) : joinL (a ++ [x]) = joinL a ++ ((if a = [] then [] else [44]) ++ x) := by
  cases a with
  | nil => simp [joinL]
  | cons y a => simp [joinL]
theorem item_len {x : TLabel} (h : Short x) : (itemL x).length ≤ 200 := by
  have := body_le (L x.f1)
  rw [size_L] at this
  have h0 := h.1
  have h1 := h.2
  simp only [itemL, List.length_append, List.length_cons, size_L, List.length_nil]
  omega
theorem joinL_len : ∀ (l : List TLabel), (∀ x ∈ l, Short x) → (joinL (l.map itemL)).length ≤ 201 * l.length := by
  have key : ∀ (l : List TLabel), (∀ x ∈ l, Short x) → ((l.map itemL).flatMap (fun b => 44 :: b)).length ≤ 201 * l.length := fun l => by
    induction l with
    | nil => intro _; simp
    | cons x l ih =>
      intro h
      have := ih (fun y hy => h y (by simp [hy]))
      have := item_len (h x (by simp))
      simp only [List.map_cons, List.flatMap_cons, List.length_append, List.length_cons]; omega
  intro l h
  cases l with
  | nil => simp [joinL]
  | cons x l =>
    have := key l (fun y hy => h y (by simp [hy]))
    have := item_len (h x (by simp))
    simp only [List.map_cons, joinL, List.length_append, List.length_cons]; omega
def itemB (x : TLabel) : ByteArray := ⟨(itemL x).toArray⟩
theorem L_itemB (x : TLabel) : L (itemB x) = itemL x := by simp [itemB]
theorem itemB_size {x : TLabel} (h : Short x) : (itemB x).size ≤ 200 := by rw [← size_L, L_itemB]; exact item_len h
theorem print_l0 (l : List TLabel) (hl : l.length ≤ 16) (hs : ∀ x ∈ l, Short x) : ∀ (suf pre : List TLabel) (i : Int), l = pre ++ suf → i = (pre.length : Int) → f_label_Print.l0 l (pre.map itemB) i = some (l.map itemB) := by
  intro suf
  induction suf with
  | nil => intro pre i h1 hi; rw [f_label_Print.l0, if_neg (by rw [h1]; simp [hi]), h1, List.append_nil]
  | cons x suf ih =>
    intro pre i h1 hi
    have hlen : l.length = pre.length + (suf.length + 1) := by rw [h1]; simp
    have hx := hs x (by rw [h1]; simp)
    have hx0 := hx.1
    have hx1 := hx.2
    have z : (⟨#[61]⟩ : ByteArray).size = 1 := rfl
    have m1 : (x.f0 ++ (⟨#[61]⟩ : ByteArray)).size = x.f0.size + 1 := by rw [ByteArray.size_append, z]
    have hb := body_le (L x.f1)
    rw [size_L] at hb
    have q : (⟨(34 :: body (L x.f1) ++ [34]).toArray⟩ : ByteArray).size = (body (L x.f1)).length + 2 := by rw [← size_L]; simp
    have e : x.f0 ++ (⟨#[61]⟩ : ByteArray) ++ (⟨(34 :: body (L x.f1) ++ [34]).toArray⟩ : ByteArray) = itemB x := ext_L (by rw [L_append, L_append, L_itemB, itemL]; simp [L_mk])
    have next := ih (pre ++ [x]) (i + 1) (by simp [h1]) (by simp; omega)
    rw [List.map_append] at next
    rw [f_label_Print.l0, if_pos (by simp; omega), at_mid h1 hi, sb, chkB (by rw [z]; omega), quote_eq x.f1 (by omega), sb, chkB (by rw [m1, q]; omega), chkB (by simp; omega), e, wrap64 (by omega) (by omega)]
    exact next
theorem join_l0 (ws : List ByteArray) (sep : ByteArray) (hl : ws.length ≤ 16) (hs : ∀ w ∈ ws, w.size ≤ 200) : ∀ (suf pre : List ByteArray) (n i : Int), ws = pre ++ suf → i = (pre.length : Int) → 0 ≤ n → n ≤ 100000 + 200 * pre.length → ∃ n', f_strings_Join.l0 ws sep n i = some n' ∧ n ≤ n' ∧ n' ≤ 200000 := by
  intro suf
  induction suf with
  | nil => intro pre n i h1 hi h0 hn; rw [f_strings_Join.l0, if_neg (by rw [h1]; simp [hi])]; refine ⟨n, rfl, Int.le_refl _, ?_⟩; rw [List.append_nil] at h1; rw [← h1] at hn; omega
  | cons w suf ih =>
    intro pre n i h1 hi h0 hn
    have hlen : ws.length = pre.length + (suf.length + 1) := by rw [h1]; simp
    have hw := hs w (by rw [h1]; simp)
    rw [f_strings_Join.l0, if_pos (by simp; omega), at_mid h1 hi, sb, wrap64 (n := (9223372036854775807 : Int) - n) (by omega) (by omega), if_neg (by simp; omega), wrap64 (n := n + (w.size : Int)) (by omega) (by omega), wrap64 (n := i + 1) (by omega) (by omega)]
    obtain ⟨n', e, h2, h3⟩ := ih (pre ++ [w]) (n + w.size) (i + 1) (by simp [h1]) (by simp; omega) (by omega) (by simp; omega)
    exact ⟨n', e, by omega, h3⟩
theorem join_l1 (a0 : List ByteArray) (rest : List ByteArray) (hr : (a0.drop (Int.toNat 1)).take ((Int.toNat (a0.length : Int)) - (Int.toNat 1)) = rest) (hl : rest.length ≤ 16) (hs : ∀ w ∈ rest, w.size ≤ 200) : ∀ (suf pre : List ByteArray) (o : List UInt8) (i : Int), rest = pre ++ suf → i = (pre.length : Int) → o.length ≤ 10000 + 201 * pre.length →
    f_strings_Join.l1 a0 (⟨#[44]⟩ : ByteArray) (ints o) i = some (ints (o ++ (suf.map L).flatMap (fun b => 44 :: b))) := by
  intro suf
  have hil : ∀ o : List UInt8, (ints o).length = o.length := fun o => by simp [ints]
  induction suf with
  | nil => intro pre o i h1 hi ho; rw [f_strings_Join.l1, hr, if_neg (by rw [h1]; simp [hi])]; simp
  | cons w suf ih =>
    intro pre o i h1 hi ho
    have hlen : rest.length = pre.length + (suf.length + 1) := by rw [h1]; simp
    have hw := hs w (by rw [h1]; simp)
    have z : (⟨#[44]⟩ : ByteArray).size = 1 := rfl
    have b44 : bytesL (⟨#[44]⟩ : ByteArray) = ints [44] := by rw [bytesL_eq]
    rw [f_strings_Join.l1, hr, if_pos (by simp; omega), at_mid h1 hi, sb, ws (by rw [hil, z]; omega), sb, b44, ← ints_append, ws (by rw [hil, List.length_append]; simp; omega), sb, bytesL_eq, ← ints_append, wrap64 (by omega) (by omega)]
    have hwl := size_L w
    rw [ih (pre ++ [w]) _ (i + 1) (by simp [h1]) (by simp; omega) (by simp; omega)]
    simp
theorem grow_eq {n : Int} (h0 : 0 ≤ n) (h1 : n ≤ 200000) : f_strings_Builder_Grow_1bc.f n = some [] := by
  unfold f_strings_Builder_Grow_1bc.f f_strings_Builder_copyCheck_1bc.f f_strings_Builder_grow_055.f
  rw [sb, if_neg (by simp; omega), wrap64 (by omega) (by omega)]
  by_cases h : 0 < n
  · rw [if_pos (by simpa using h), chkB (by omega), chkB (by omega), sb, sb]
  · rw [if_neg (by simpa using h), sb]
theorem join_eq (ws : List ByteArray) (hl : ws.length ≤ 16) (hs : ∀ w ∈ ws, w.size ≤ 200) : f_strings_Join.f ws (⟨#[44]⟩ : ByteArray) = some ⟨(joinL (ws.map L)).toArray⟩ := by
  unfold f_strings_Join.f
  match ws, hl, hs with
  | [], _, _ => rfl
  | [a], _, _ =>
    rw [if_neg (by simp), if_pos (by simp), show at? [a] 0 = some a from rfl, sb]
    congr 1
    apply ext_L
    simp [joinL, L_mk]
  | a :: b :: r, hl, hs =>
    have hlen : ((a :: b :: r).length : Int) = (r.length : Int) + 2 := by simp; omega
    have hrl : r.length ≤ 14 := by simp at hl; omega
    have hdiv : 2 ≤ (9223372036854775807 : Int) / ((r.length : Int) + 1) := Int.le_ediv_of_mul_le (by omega) (by omega)
    have hdiv2 : (9223372036854775807 : Int) / ((r.length : Int) + 1) ≤ 9223372036854775807 := Int.ediv_le_self _ (by omega)
    have z : (⟨#[44]⟩ : ByteArray).size = 1 := rfl
    rw [hlen, if_neg (by simp; omega), if_neg (by simp; omega), z, if_pos (by decide), wrap64 (n := (r.length : Int) + 2 - 1) (by omega) (by omega), show (r.length : Int) + 2 - 1 = (r.length : Int) + 1 by omega, chkB (by omega), Int.tdiv_eq_ediv_of_nonneg (by omega), wrap64 (n := (9223372036854775807 : Int) / ((r.length : Int) + 1)) (by omega) (by omega), if_neg (by simp; omega)]
    have e1 : IntKind.i64.wrap (((1 : Nat) : Int) * ((r.length : Int) + 1)) = (r.length : Int) + 1 := by rw [wrap64 (by omega) (by omega)]; omega
    rw [e1, Int.zero_add, wrap64 (n := (r.length : Int) + 1) (by omega) (by omega), sb]
    obtain ⟨n', e, h2, h3⟩ := join_l0 (a :: b :: r) (⟨#[44]⟩ : ByteArray) hl hs (a :: b :: r) [] ((r.length : Int) + 1) 0 rfl rfl (by omega) (by simp; omega)
    have ha := hs a (by simp)
    have hal := size_L a
    rw [e, sb, grow_eq (by omega) h3, sb, show at? (a :: b :: r) 0 = some a from rfl, sb, Go.Proofs.Ytjfhobijgkccdaa.PvGA2.ws (by simp; omega), sb, chkB (by omega), List.nil_append, bytesL_eq]
    have hrest : ((a :: b :: r).drop (Int.toNat 1)).take ((Int.toNat (((a :: b :: r).length : Nat) : Int)) - (Int.toNat 1)) = b :: r := by
      rw [Int.toNat_natCast]; simp
    rw [join_l1 (a :: b :: r) (b :: r) hrest (by simp; omega) (fun w hw => hs w (by simp at hw ⊢; exact .inr hw)) (b :: r) [] (L a) 0 rfl rfl (by simp; omega), sb]
    have hne : ints (L a ++ ((b :: r).map L).flatMap (fun b => 44 :: b)) ≠ [] := by simp [ints]
    have hlen2 : (ints (L a ++ ((b :: r).map L).flatMap (fun b => 44 :: b))).length ≤ 9223372036854775807 := by
      have key : ∀ (q : List ByteArray), (∀ w ∈ q, w.size ≤ 200) → ((q.map L).flatMap (fun b => 44 :: b)).length ≤ 201 * q.length := fun q => by
        induction q with
        | nil => intro _; simp
        | cons x q ih =>
          intro h
          have := ih (fun y hy => h y (by simp [hy]))
          have h1 := h x (by simp)
          have h2 := size_L x
          simp only [List.map_cons, List.flatMap_cons, List.length_append, List.length_cons]; omega
      have := key (b :: r) (fun w hw => hs w (by simp at hw ⊢; exact .inr hw))
      simp only [ints, List.length_map, List.length_append] at this ⊢
      simp only [List.length_cons] at this
      omega
    have hstr : f_strings_Builder_String_378.f (ints (L a ++ ((b :: r).map L).flatMap (fun b => 44 :: b))) = some () := by
      unfold f_strings_Builder_String_378.f
      rw [chkB hne, chkB ⟨hne, hlen2, bytesOK_ints _⟩]
    rw [hstr, sb, strOf_ints]
    rfl
theorem lprint (l : List TLabel) (hl : l.length ≤ 16) (hs : ∀ x ∈ l, Short x) : f_label_Print.f l = some ⟨(printL l).toArray⟩ := by
  unfold f_label_Print.f
  have hj := joinL_len l hs
  rw [show f_label_Print.l0 l [] 0 = _ from print_l0 l hl hs l [] 0 rfl rfl, sb, join_eq (l.map itemB) (by simpa using hl) (fun w hw => by
    obtain ⟨x, hx, rfl⟩ := List.mem_map.1 hw
    exact itemB_size (hs x hx)), sb, List.map_map, show (L ∘ itemB) = itemL from funext L_itemB]
  have z1 : (⟨#[123]⟩ : ByteArray).size = 1 := rfl
  have z2 : (⟨#[125]⟩ : ByteArray).size = 1 := rfl
  have z3 : (⟨(joinL (l.map itemL)).toArray⟩ : ByteArray).size = (joinL (l.map itemL)).length := by rw [← size_L]
  rw [chkB (by rw [z1, z3]; omega), chkB (by rw [ByteArray.size_append, z1, z2, z3]; omega)]
  rfl
theorem rprint_l0 (l : List TLabel) (hl : l.length ≤ 16) (hs : ∀ x ∈ l, Short x) : ∀ (suf pre : List TLabel) (o : ByteArray) (i : Int), l = pre ++ suf → i = (pre.length : Int) → L o = 123 :: joinL (pre.map itemL) →
    ∃ r, f_pluvialref10_Print.l0 l o i = some r ∧ L r = 123 :: joinL (l.map itemL) := by
  intro suf
  induction suf with
  | nil => intro pre o i h1 hi ho; rw [f_pluvialref10_Print.l0, if_neg (by rw [h1]; simp [hi]), h1, List.append_nil]; exact ⟨o, rfl, ho⟩
  | cons x suf ih =>
    intro pre o i h1 hi ho
    have hlen : l.length = pre.length + (suf.length + 1) := by rw [h1]; simp
    have hx := hs x (by rw [h1]; simp)
    have hx0 := hx.1
    have hx1 := hx.2
    have hpl := joinL_len pre (fun y hy => hs y (by rw [h1]; simp [hy]))
    have hos : o.size = 1 + (joinL (pre.map itemL)).length := by rw [← size_L, ho]; simp; omega
    have z : (⟨#[61]⟩ : ByteArray).size = 1 := rfl
    have z44 : (⟨#[44]⟩ : ByteArray).size = 1 := rfl
    have hb := body_le (L x.f1)
    rw [size_L] at hb
    have q : (⟨(34 :: body (L x.f1) ++ [34]).toArray⟩ : ByteArray).size = (body (L x.f1)).length + 2 := by rw [← size_L]; simp
    obtain ⟨o2, e2, h2, h3⟩ : ∃ o2, ((if (decide (i > (0 : Int))) = true then ((chk (((o.size + (⟨#[44]⟩ : ByteArray).size : Nat) : Int) ≤ 9223372036854775807)) >>= fun _ => some (o ++ (⟨#[44]⟩ : ByteArray))) else (some o)) : Option ByteArray) = some o2 ∧ L o2 = L o ++ (if pre.map itemL = [] then [] else [44]) ∧ o2.size ≤ o.size + 1 := by
      by_cases hp : pre = []
      · subst hp
        rw [if_neg (by simp at hi; simp; omega)]
        exact ⟨o, rfl, by simp, by omega⟩
      · have : 0 < pre.length := List.length_pos_iff.2 hp
        rw [if_pos (by simp; omega), chkB (by rw [z44]; omega)]
        exact ⟨_, rfl, by rw [L_append, if_neg (by simpa using hp)], by rw [ByteArray.size_append, z44]; omega⟩
    rw [f_pluvialref10_Print.l0, if_pos (by simp; omega), e2, sb, at_mid h1 hi, sb, chkB (by omega), chkB (by rw [ByteArray.size_append, z]; omega), ref_eq x.f1 (by omega), sb, chkB (by rw [ByteArray.size_append, ByteArray.size_append, z, q]; omega), wrap64 (by omega) (by omega)]
    refine ih (pre ++ [x]) _ (i + 1) (by simp [h1]) (by simp; omega) ?_
    rw [L_append, L_append, L_append, h2, ho, List.map_append, List.map_cons, List.map_nil, joinL_snoc, itemL]
    simp [L_mk]
theorem rprint (l : List TLabel) (hl : l.length ≤ 16) (hs : ∀ x ∈ l, Short x) : f_pluvialref10_Print.f l = some ⟨(printL l).toArray⟩ := by
  unfold f_pluvialref10_Print.f
  obtain ⟨r, e, h⟩ := rprint_l0 l hl hs l [] (⟨#[123]⟩ : ByteArray) 0 rfl rfl rfl
  have hj := joinL_len l hs
  have hrs : r.size = 1 + (joinL (l.map itemL)).length := by rw [← size_L, h]; simp; omega
  have z2 : (⟨#[125]⟩ : ByteArray).size = 1 := rfl
  rw [e, sb, chkB (by rw [hrs, z2]; omega)]
  congr 1
  apply ext_L
  rw [L_append, h, printL]; simp [L_mk]
end Go.Proofs.Ytjfhobijgkccdaa.PvGA2
set_option linter.unusedVariables false
set_option linter.unusedSimpArgs false
namespace Go.Proofs.Ytjfhobijgkccdaa.PvGA2
open Go Go.Pv Go.Pv.GS
theorem idx_none : ∀ (l : List UInt8) (c : UInt8), Lib.indexByte l c = -1 → c ∉ l
  | [], _, _ => by simp
  | b :: l, c, h => by
    unfold Lib.indexByte at h
    by_cases e : b = c
    · rw [if_pos (by simpa using e)] at h; omega
    · rw [if_neg (by simpa using e)] at h
      by_cases e2 : Lib.indexByte l c = -1
      · have := idx_none l c e2
        simp [this, fun q => e (Eq.symm q)]
        exact fun q => e q.symm
      · rw [if_neg (by simpa using e2)] at h
        have := Lib.indexByte_ge l c
        omega
theorem idx_some : ∀ (l : List UInt8) (c : UInt8), Lib.indexByte l c ≠ -1 → ∃ A B, l = A ++ c :: B ∧ c ∉ A ∧ Lib.indexByte l c = (A.length : Int)
  | [], _, h => by simp [Lib.indexByte] at h
  | b :: l, c, h => by
    unfold Lib.indexByte at h ⊢
    by_cases e : b = c
    · rw [if_pos (by simpa using e)]
      exact ⟨[], l, by rw [e]; rfl, by simp, rfl⟩
    · rw [if_neg (by simpa using e)] at h ⊢
      by_cases e2 : Lib.indexByte l c = -1
      · rw [if_pos (by simpa using e2)] at h; exact absurd rfl h
      · rw [if_neg (by simpa using e2)]
        obtain ⟨A, B, h1, h2, h3⟩ := idx_some l c e2
        refine ⟨b :: A, B, by rw [h1]; rfl, ?_, by rw [h3]; simp⟩
        intro q
        rcases List.mem_cons.1 q with q | q
        · exact e q.symm
        · exact h2 q
theorem split_first {c : UInt8} : ∀ {A B A' B' : List UInt8}, A ++ c :: B = A' ++ c :: B' → c ∉ A → c ∉ A' → A = A' ∧ B = B'
  | [], B, [], B', h, _, _ => by simp at h; exact ⟨rfl, h⟩
  | [], B, y :: A', B', h, _, h2 => by simp at h; exact absurd (by rw [← h.1]; simp) h2
  | x :: A, B, [], B', h, h1, _ => by simp at h; exact absurd (by rw [h.1]; simp) h1
  | x :: A, B, y :: A', B', h, h1, h2 => by
    simp only [List.cons_append, List.cons.injEq] at h
    obtain ⟨e1, e2⟩ := split_first h.2 (fun q => h1 (by simp [q])) (fun q => h2 (by simp [q]))
    exact ⟨by rw [h.1, e1], e2⟩
theorem cut_spec (s : ByteArray) (hs : s.size ≤ 5000) : ∃ a b ok, f_strings_Cut_2e8.f s = some (a, b, ok) ∧ ((ok = false ∧ 61 ∉ L s) ∨ (ok = true ∧ L s = L a ++ 61 :: L b ∧ 61 ∉ L a)) := by
  unfold f_strings_Cut_2e8.f f_stringslite_Cut_2e8.f f_stringslite_Index_2e8.f f_stringslite_IndexByte.f
  have hbt : bt (⟨#[61]⟩ : ByteArray) 0 = 61 := by decide
  have hdata : s.data.toList = L s := rfl
  have h61 : (Int.toNat 61).toUInt8 = 61 := by decide
  by_cases he : L s = [61]
  · have : ((⟨#[61]⟩ : ByteArray).toList == s.toList) = true := by rw [toList_L, toList_L, he]; rfl
    have hsz : s.size = 1 := by rw [← size_L, he]; rfl
    rw [if_pos this, sb, if_pos (by simp), chkB (by omega), show IntKind.i64.wrap ((0 : Int) + 1) = 1 by decide, chkB (by omega), sb]
    refine ⟨_, _, _, rfl, .inr ⟨rfl, ?_, ?_⟩⟩
    · rw [L_extract, L_extract, he, hsz]; rfl
    · rw [L_extract]; simp
  · have : ¬ ((⟨#[61]⟩ : ByteArray).toList == s.toList) = true := by
      rw [toList_L, toList_L]
      intro q
      exact he ((beq_iff_eq.1 q).symm.trans rfl)
    rw [if_neg this, chkB (by decide), sb, hbt, h61, hdata, sb]
    by_cases hn : Lib.indexByte (L s) 61 = -1
    · rw [hn, if_neg (by simp), sb]
      exact ⟨_, _, _, rfl, .inl ⟨rfl, idx_none _ _ hn⟩⟩
    · obtain ⟨A, B, h1, h2, h3⟩ := idx_some _ _ hn
      have hlen := congrArg List.length h1
      rw [size_L, List.length_append, List.length_cons] at hlen
      rw [h3, if_pos (by simp), chkB (by omega), wrap64 (n := (A.length : Int) + 1) (by omega) (by omega), chkB (by omega), sb]
      refine ⟨_, _, _, rfl, .inr ⟨rfl, ?_, ?_⟩⟩
      · rw [L_extract, L_extract, h1, show Int.toNat 0 = 0 from rfl, Int.toNat_natCast, List.drop_zero, Nat.sub_zero, List.take_left]
        rw [show Int.toNat ((A.length : Int) + 1) = A.length + 1 by omega, Int.toNat_natCast]
        have e1 : (A ++ 61 :: B).drop (A.length + 1) = B := by
          rw [← List.drop_drop, List.drop_left]; rfl
        rw [e1, List.take_of_length_le (by omega)]
      · rw [L_extract, h1, show Int.toNat 0 = 0 from rfl, Int.toNat_natCast, List.drop_zero, Nat.sub_zero, List.take_left]
        exact h2
def tailL (l : List TLabel) : List UInt8 := (l.map itemL).flatMap (fun b => 44 :: b) ++ [125]
theorem join_cons (x : TLabel) (l : List TLabel) : joinL ((x :: l).map itemL) ++ [125] = L x.f0 ++ 61 :: (34 :: body (L x.f1) ++ 34 :: tailL l) := by
  simp [joinL, itemL, tailL]
theorem tail_cons (y : TLabel) (l : List TLabel) : tailL (y :: l) = 44 :: (joinL ((y :: l).map itemL) ++ [125]) := by
  simp [joinL, tailL]
theorem tail_ne (l : List TLabel) : tailL l ≠ [] := by simp [tailL]
def NoEq (l : List TLabel) : Prop := ∀ x ∈ l, 61 ∉ L x.f0
theorem eqL (a : ByteArray) (l : List UInt8) (b : ByteArray) (hb : L b = l) : (a.toList == b.toList) = decide (L a = l) := by
  rw [toList_L, toList_L, hb, Bool.eq_iff_iff]; simp
theorem parse_l0 : ∀ (n : Nat) (s : ByteArray) (acc : List TLabel), s.size ≤ n → s.size ≤ 5000 → acc.length + s.size ≤ 20000 →
    (f_label_Parse.l0 s acc = some (.inl ([], 6)) ∨ ∃ l, l ≠ [] ∧ f_label_Parse.l0 s acc = some (.inr (acc ++ l)) ∧ L s = joinL (l.map itemL) ++ [125]) ∧
    (∀ l, l ≠ [] → NoEq l → L s = joinL (l.map itemL) ++ [125] → f_label_Parse.l0 s acc = some (.inr (acc ++ l))) := by
  intro n
  induction n with
  | zero =>
    intro s acc hn h5 ha
    have h0 : L s = [] := List.length_eq_zero_iff.1 (by rw [size_L]; omega)
    obtain ⟨a, b, ok, e, h⟩ := cut_spec s h5
    rw [f_label_Parse.l0, e, sb]
    rcases h with ⟨rfl, h⟩ | ⟨_, h, _⟩
    · dsimp only
      rw [if_pos (show (!false) = true from rfl)]
      exact ⟨.inl rfl, fun l hl _ q => by rw [h0] at q; simp at q⟩
    · rw [h0] at h; simp at h
  | succ n ih =>
    intro s acc hn h5 ha
    obtain ⟨a, b, ok, e, h⟩ := cut_spec s h5
    rw [f_label_Parse.l0, e, sb]
    have first : ∀ l : List TLabel, l ≠ [] → L s = joinL (l.map itemL) ++ [125] → ∃ x l', l = x :: l' ∧ L s = L x.f0 ++ 61 :: (34 :: body (L x.f1) ++ 34 :: tailL l') := fun l hl q => by
      cases l with
      | nil => exact absurd rfl hl
      | cons x l' => exact ⟨x, l', rfl, by rw [q, join_cons]⟩
    rcases h with ⟨rfl, h⟩ | ⟨rfl, h, hna⟩
    · dsimp only
      rw [if_pos (show (!false) = true from rfl)]
      refine ⟨.inl rfl, fun l hl hne q => ?_⟩
      obtain ⟨x, l', _, q2⟩ := first l hl q
      exact absurd (by rw [q2]; simp) h
    dsimp only
    rw [if_neg (by simp)]
    have hbl : b.size ≤ s.size := by
      have := congrArg List.length h
      rw [size_L, List.length_append, List.length_cons, size_L, size_L] at this
      omega
    have hab : a.size + b.size + 1 = s.size := by
      have := congrArg List.length h
      rw [size_L, List.length_append, List.length_cons, size_L, size_L] at this
      omega
    obtain ⟨t, m, ok, eu, hu, hfw⟩ := unq_eq b (by omega)
    rw [eu, sb]
    dsimp only
    have hmz : (m.toList == (⟨#[]⟩ : ByteArray).toList) = decide (L m = []) := eqL m [] _ rfl
    rw [hmz]
    have shape : ∀ l, l ≠ [] → NoEq l → L s = joinL (l.map itemL) ++ [125] → ∃ x l', l = x :: l' ∧ x = ⟨a, t⟩ ∧ L m = tailL l' ∧ ok = true := fun l hl hne q => by
      obtain ⟨x, l', q1, q2⟩ := first l hl q
      rw [h] at q2
      obtain ⟨z1, z2⟩ := split_first q2 hna (hne x (by rw [q1]; simp))
      obtain ⟨w1, w2, w3⟩ := hfw (body (L x.f1) ++ 34 :: tailL l') (L x.f1) (tailL l') z2 (by rw [U_body]; simp)
      refine ⟨x, l', q1, ?_, w2, w3⟩
      have y1 := ext_L z1
      have y2 := ext_L w1
      cases x; simp_all
    by_cases hbad : ok = false ∨ L m = []
    · have hb : ((if (!ok) = true then (some true) else (some (decide (L m = [])))) : Option Bool) = some true := by
        cases ok
        · rfl
        · rcases hbad with q | q
          · simp at q
          · rw [if_neg (by simp), decide_eq_true q]
      rw [hb, sb, if_pos rfl]
      refine ⟨.inl rfl, fun l hl hne q => ?_⟩
      obtain ⟨x, l', _, _, q3, q4⟩ := shape l hl hne q
      rcases hbad with q5 | q5
      · rw [q4] at q5; simp at q5
      · rw [q3] at q5; exact absurd q5 (tail_ne l')
    have hok : ok = true := by cases ok; exact absurd (.inl rfl) hbad; rfl
    have hmne : L m ≠ [] := fun q => hbad (.inr q)
    subst hok
    have hb : ((if (!true) = true then (some true) else (some (decide (L m = [])))) : Option Bool) = some false := by
      rw [if_neg (by simp), decide_eq_false hmne]
    rw [hb, sb, if_neg (by simp), chkB (by simp; omega)]
    obtain ⟨t', m', k1, k2, k3, _⟩ : ∃ t' m', L b = 34 :: body t' ++ 34 :: m' ∧ L t = t' ∧ L m = m' ∧ True := by
      rcases hu with ⟨t', m', k1, k2, k3, _⟩ | ⟨_, _, k3⟩
      · exact ⟨t', m', k1, k2, k3, trivial⟩
      · simp at k3
    have hs2 : L s = L a ++ 61 :: (34 :: body (L t) ++ 34 :: L m) := by rw [h, k1, k2, k3]
    have hm125 : (m.toList == (⟨#[125]⟩ : ByteArray).toList) = decide (L m = [125]) := eqL m [125] _ rfl
    rw [hm125]
    by_cases hend : L m = [125]
    · rw [if_pos (by simpa using hend)]
      refine ⟨.inr ⟨[⟨a, t⟩], by simp, rfl, ?_⟩, fun l hl hne q => ?_⟩
      · rw [join_cons, hs2, hend]; rfl
      · obtain ⟨x, l', q1, q2, q3, _⟩ := shape l hl hne q
        have : l' = [] := by
          cases l' with
          | nil => rfl
          | cons y l'' => rw [tail_cons, hend] at q3; simp at q3
        rw [q1, q2, this]
    rw [if_neg (by simpa using hend)]
    have hms : 0 < m.size := by
      rw [← size_L]; exact List.length_pos_iff.2 hmne
    obtain ⟨c, r, hc, hr, hbt⟩ := L_cons_of hms
    rw [chkB (by omega), hbt]
    by_cases h44 : c = 44
    case neg =>
      have : (((c.toNat : Int)) != (44 : Int)) = true := by have := neq_u8 (n := 44) (by omega) h44; simp [bne]; simpa using this
      rw [if_pos this]
      refine ⟨.inl rfl, fun l hl hne q => ?_⟩
      obtain ⟨x, l', q1, q2, q3, _⟩ := shape l hl hne q
      cases l' with
      | nil => exact absurd (by rw [q3]; rfl) hend
      | cons y l'' => rw [tail_cons, hc] at q3; simp at q3; exact absurd q3.1 h44
    subst h44
    rw [if_neg (by decide), chkB (by omega)]
    have hrest : L (m.extract (Int.toNat 1) (Int.toNat (m.size : Int))) = r := by
      rw [L_extract, hc, Int.toNat_natCast, show Int.toNat 1 = 1 from rfl, List.drop_succ_cons, List.drop_zero, List.take_of_length_le (by omega)]
    have hmb : m.size ≤ b.size := by
      have := congrArg List.length k1
      rw [← k3] at this
      simp only [size_L, List.length_append, List.length_cons] at this
      omega
    have hrs : (m.extract (Int.toNat 1) (Int.toNat (m.size : Int))).size = m.size - 1 := by rw [← size_L, hrest]; exact hr
    obtain ⟨i1, i2⟩ := ih (m.extract (Int.toNat 1) (Int.toNat (m.size : Int))) (acc ++ [⟨a, t⟩]) (by omega) (by omega) (by simp; omega)
    refine ⟨?_, fun l hl hne q => ?_⟩
    · rcases i1 with i1 | ⟨l, hl, e1, e2⟩
      · exact .inl i1
      · refine .inr ⟨⟨a, t⟩ :: l, by simp, by rw [e1]; simp, ?_⟩
        rw [join_cons, hs2]
        have : L m = tailL l := by
          cases l with
          | nil => exact absurd rfl hl
          | cons y l' => rw [tail_cons, hc, ← hrest, e2]
        rw [this]
    · obtain ⟨x, l', q1, q2, q3, _⟩ := shape l hl hne q
      cases l' with
      | nil => exact absurd (by rw [q3]; rfl) hend
      | cons y l'' =>
        rw [tail_cons, hc, List.cons.injEq] at q3
        rw [i2 (y :: l'') (by simp) (fun z hz => hne z (by rw [q1]; simp at hz ⊢; exact .inr hz)) (by rw [hrest]; exact q3.2), q1, q2]
        simp
theorem nameL_61 : ∀ (l : List UInt8) (f : Bool), nameL f l = true → 61 ∉ l
  | [], _, _ => by simp
  | c :: l, f, h => by
    simp only [nameL, Bool.and_eq_true] at h
    have := nameL_61 l false h.2
    intro q
    rcases List.mem_cons.1 q with q | q
    · have h1 := h.1
      rw [← q] at h1
      simp only [nameC, decide_eq_true_eq] at h1
      have : ((61 : UInt8).toNat : Int) = 61 := by decide
      omega
    · exact this q
theorem noEq_of {l : List TLabel} (h : Right2 l) : NoEq l := fun x hx => by
  have := h.1 x hx
  simp only [nameB, Bool.and_eq_true] at this
  exact nameL_61 _ _ this.1.2
theorem prefix_spec (s : ByteArray) (hs : s.size ≤ 5000) : ∃ rest ok, f_strings_CutPrefix.f s (⟨#[123]⟩ : ByteArray) = some (rest, ok) ∧ ((ok = true ∧ L s = 123 :: L rest) ∨ (ok = false ∧ ∀ r, L s ≠ 123 :: r)) := by
  unfold f_strings_CutPrefix.f f_stringslite_CutPrefix.f f_stringslite_HasPrefix.f
  have z : (⟨#[123]⟩ : ByteArray).size = 1 := rfl
  by_cases h0 : 0 < s.size
  case neg =>
    have : L s = [] := List.length_eq_zero_iff.1 (by rw [size_L]; omega)
    rw [z, if_neg (by rw [decide_eq_true_eq]; omega), sb, sb, if_pos (show (!false) = true from rfl), sb]
    exact ⟨_, _, rfl, .inr ⟨rfl, fun r q => by rw [this] at q; simp at q⟩⟩
  obtain ⟨c, r, hc, hr, hbt⟩ := L_cons_of h0
  have hx : L (s.extract (Int.toNat 0) (Int.toNat ((1 : Nat) : Int))) = [c] := by
    rw [L_extract, hc]; rfl
  have heq : ((s.extract (Int.toNat 0) (Int.toNat ((1 : Nat) : Int))).toList == (⟨#[123]⟩ : ByteArray).toList) = decide (c = 123) := by
    rw [toList_L, toList_L, hx, Bool.eq_iff_iff]; simp [L_mk]
  rw [z, if_pos (by rw [decide_eq_true_eq]; omega), chkB (by omega), heq, sb, sb]
  by_cases h123 : c = 123
  · rw [decide_eq_true h123, if_neg (by simp), chkB (by omega), sb]
    refine ⟨_, _, rfl, .inl ⟨rfl, ?_⟩⟩
    rw [L_extract, hc, h123, Int.toNat_natCast, Int.toNat_natCast, List.drop_succ_cons, List.drop_zero, List.take_of_length_le (by omega)]
  · rw [decide_eq_false h123, if_pos (show (!false) = true from rfl), sb]
    exact ⟨_, _, rfl, .inr ⟨rfl, fun r' q => by rw [hc, List.cons.injEq] at q; exact h123 q.1⟩⟩
theorem chkC_vals (l : List TLabel) : chkC l = 0 ∨ chkC l = 9 ∨ chkC l = 26 := by
  unfold chkC
  by_cases h : l.length > 16
  · rw [if_pos h]; exact .inr (.inl rfl)
  · rw [if_neg h]
    by_cases h2 : risingB none l = true
    · rw [if_pos h2]; exact .inl rfl
    · rw [if_neg h2]; exact .inr (.inr rfl)
theorem parse_spec (s : ByteArray) (hs : s.size ≤ 5000) : ∃ y f, f_label_Parse.f s = some (y, f) ∧ ((f = 0 ∧ chkC y = 0 ∧ L s = printL y) ∨ ((f = 6 ∨ f = 9 ∨ f = 26) ∧ y = [])) ∧ (∀ l, chkC l = 0 → L s = printL l → y = l ∧ f = 0) := by
  unfold f_label_Parse.f
  obtain ⟨rest, ok, e, h⟩ := prefix_spec s hs
  rw [e, sb]
  rcases h with ⟨rfl, h⟩ | ⟨rfl, h⟩
  case inr =>
    dsimp only
    rw [if_pos (show (!false) = true from rfl)]
    exact ⟨[], 6, rfl, .inr ⟨.inl rfl, rfl⟩, fun l _ q => absurd q (h _)⟩
  have hrs : rest.size + 1 = s.size := by
    have := congrArg List.length h
    rw [size_L, List.length_cons, size_L] at this
    omega
  dsimp only
  rw [if_neg (by simp), show (rest.toList == (⟨#[125]⟩ : ByteArray).toList) = decide (L rest = [125]) from eqL rest [125] _ rfl]
  have c0 : chkC [] = 0 := by decide
  by_cases h125 : L rest = [125]
  · rw [if_pos (by simpa using h125)]
    refine ⟨[], 0, rfl, .inl ⟨rfl, c0, by rw [h, h125]; rfl⟩, fun l hl q => ⟨?_, rfl⟩⟩
    rw [h, h125, printL, List.cons.injEq] at q
    cases l with
    | nil => rfl
    | cons x l' =>
      have := congrArg List.length q.2
      simp [joinL, itemL] at this
      omega
  · rw [if_neg (by simpa using h125)]
    obtain ⟨p1, p2⟩ := parse_l0 rest.size rest [] (Nat.le_refl _) (by omega) (by simp; omega)
    have fw : ∀ l, chkC l = 0 → L s = printL l → f_label_Parse.l0 rest [] = some (.inr l) := fun l hl q => by
      rw [h, printL, List.cons.injEq] at q
      have hne : l ≠ [] := fun e => by rw [e] at q; exact h125 q.2
      have := p2 l hne (noEq_of (chkC_zero hl).2) q.2
      rwa [List.nil_append] at this
    rcases p1 with p1 | ⟨l, hl, p1, p3⟩
    · rw [p1, sb]
      exact ⟨[], 6, rfl, .inr ⟨.inl rfl, rfl⟩, fun l hl q => by have := fw l hl q; rw [p1] at this; simp at this⟩
    · rw [p1, sb, List.nil_append]
      dsimp only
      rw [lcheck, sb]
      by_cases hc : chkC l = 0
      · rw [if_neg (by simpa using hc)]
        exact ⟨l, 0, rfl, .inl ⟨rfl, hc, by rw [h, p3]; rfl⟩, fun l2 hl2 q => by have := fw l2 hl2 q; rw [p1] at this; simp at this; exact ⟨this, rfl⟩⟩
      · rw [if_pos (by simpa using hc)]
        have hv := chkC_vals l
        refine ⟨[], chkC l, rfl, .inr ⟨by omega, rfl⟩, fun l2 hl2 q => ?_⟩
        have := fw l2 hl2 q
        rw [p1] at this
        simp at this
        rw [this] at hc
        exact absurd hl2 hc
theorem labelBack_true (l : List TLabel) (s : ByteArray) (h : Fit l) : f_pluviallaw10_LabelBack.f l s = some true := by
  have hl : l.length < 10000000000000 := by unfold Fit at h; omega
  unfold f_pluviallaw10_LabelBack.f
  obtain ⟨b1, e1⟩ := light10 l hl
  rw [e1, sb]
  have hg : ((if (!b1) = true then (some true) else (some (decide ((s.size : Int) > (2000 : Int))))) : Option Bool) = some (!b1 || decide ((s.size : Int) > 2000)) := by
    cases b1 <;> rfl
  rw [hg, sb]
  by_cases hx : (!b1 || decide ((s.size : Int) > 2000)) = true
  · rw [if_pos hx, awake10, sb]
  rw [if_neg hx, rcheck, sb]
  have hs : s.size ≤ 2000 := by
    simp only [Bool.or_eq_true, not_or, decide_eq_true_eq] at hx
    have := hx.2; omega
  have hA : ((if (chkC l == (0 : Int)) = true then ((f_label_Key.f l) >>= fun t766 => (f_label_Print.f l) >>= fun t768 => (f_label_From.f t766) >>= fun t838 => (f_label_Parse.f t768) >>= fun t842 => (((f_pluvialref10_Key.f l) >>= fun t1071 => if (!(t766.toList == t1071.toList)) = true then (some true) else ((f_pluvialref10_Print.f l) >>= fun t1074 => if (!(t768.toList == t1074.toList)) = true then (some true) else (if (t838.2 != (0 : Int)) = true then (some true) else (if (t842.2 != (0 : Int)) = true then (some true) else ((f_pluviallaw10_same.f t838.1 l) >>= fun t1079 => if (!t1079) = true then (some true) else ((f_pluviallaw10_same.f t842.1 l) >>= fun t1082 => some (!t1082))))))) : Option (Bool)) >>= fun x1084 => if x1084 = true then (some (.inl false)) else (some (.inr ()))) else (some (.inr ()))) : Option (Bool ⊕ Unit)) = some (.inr ()) := by
    by_cases hc : chkC l = 0
    case neg => rw [if_neg (by simpa using hc)]
    obtain ⟨la, ra⟩ := chkC_zero hc
    have hsh := right_short ra
    have kl : (keyL l).length ≤ 130 * l.length := by
      have : ∀ q : List TLabel, (∀ x ∈ q, Short x) → (keyL q).length ≤ 130 * q.length := fun q => by
        induction q with
        | nil => intro _; simp [keyL]
        | cons x q ih =>
          intro hq
          have := ih (fun y hy => hq y (by simp [hy]))
          have h1 := hq x (by simp)
          have h2 := h1.1
          have h3 := h1.2
          rw [keyL_cons]
          simp only [List.length_append, word_len, List.length_cons]; omega
      exact this l hsh
    have pl := joinL_len l hsh
    have ks : (⟨(keyL l).toArray⟩ : ByteArray).size = (keyL l).length := by rw [← size_L]
    have ps : (⟨(printL l).toArray⟩ : ByteArray).size = (printL l).length := by rw [← size_L]
    have pl2 : (printL l).length = (joinL (l.map itemL)).length + 2 := by simp [printL]
    obtain ⟨x, e, ef, hf⟩ := from_spec ⟨(keyL l).toArray⟩ (by rw [ks]; omega)
    obtain ⟨y, f, ep, _, hp⟩ := parse_spec ⟨(printL l).toArray⟩ (by rw [ps, pl2]; omega)
    obtain ⟨hy, hf0⟩ := hp l hc rfl
    have hxe : e = 0 ∧ x = l := by
      rcases hf with ⟨q1, q2, q3⟩ | ⟨_, _, q⟩
      · exact ⟨q1, keyL_inj (right_short (chkC_zero q2).2) hsh q3.symm⟩
      · exact absurd rfl (q l hc)
    rw [if_pos (by simpa using hc), lkey l la hsh, sb, lprint l la hsh, sb, ef, sb, ep, sb, rkey l la hsh, sb, if_neg (by simp), rprint l la hsh, sb, if_neg (by simp)]
    dsimp only
    rw [hxe.1, hf0, if_neg (by simp), if_neg (by simp), hxe.2, hy, same10 l l hl hl, sb, if_neg (by simp), sb, sb, if_neg (by simp)]
  rw [hA, sb]
  dsimp only
  obtain ⟨x, e, ef, hf⟩ := from_spec s (by omega)
  obtain ⟨y, f, ep, hp, _⟩ := parse_spec s (by omega)
  rw [ef, sb]
  have hB : ((if (e == (0 : Int)) = true then ((f_pluvialref10_Check.f x) >>= fun t1100 => if (t1100 != (0 : Int)) = true then (some true) else ((f_pluvialref10_Key.f x) >>= fun t1103 => if (!(t1103.toList == s.toList)) = true then (some true) else (if (e != (0 : Int)) = true then (some (e != (6 : Int))) else (some false)))) else (if (e != (0 : Int)) = true then (some (e != (6 : Int))) else (some false))) : Option Bool) = some false := by
    rcases hf with ⟨rfl, q2, q3⟩ | ⟨rfl, _, _⟩
    · obtain ⟨la, ra⟩ := chkC_zero q2
      rw [if_pos (by simp), rcheck, sb, q2, if_neg (by simp), rkey x la (right_short ra), sb, show ((⟨(keyL x).toArray⟩ : ByteArray).toList == s.toList) = true from beq_self_L (by rw [q3]), if_neg (by simp), if_neg (by simp)]
    · rw [if_neg (by simp), if_pos (by simp)]; rfl
  dsimp only
  rw [hB, sb, if_neg (by simp), ep, sb]
  dsimp only
  rcases hp with ⟨rfl, q2, q3⟩ | ⟨q1, rfl⟩
  · obtain ⟨la, ra⟩ := chkC_zero q2
    rw [if_pos (by simp), awake10, sb, if_pos rfl, rcheck, sb, q2, if_pos (by simp), rprint y la (right_short ra), sb, show ((⟨(printL y).toArray⟩ : ByteArray).toList == s.toList) = true from beq_self_L (by rw [q3]), sb]
  · rcases q1 with rfl | rfl | rfl
    · rw [if_neg (by simp), if_pos (by simp), awake10]; rfl
    · rw [if_neg (by simp), if_neg (by simp), if_pos (by simp), awake10]; rfl
    · rw [if_neg (by simp), if_neg (by simp), if_neg (by simp), awake10]; rfl
theorem labelBack_R (l : List TLabel) (s : ByteArray) (hl : l.length ≤ maxLen ∧ ∀ y ∈ l, RLabel y) (hs : s.size ≤ maxLen)
    (K0 : l.length * 32 ≤ reachBytes) : f_pluviallaw10_LabelBack.f l s = some true :=
  labelBack_true l s (by unfold Fit; unfold reachBytes at K0; omega)
end Go.Proofs.Ytjfhobijgkccdaa.PvGA2
