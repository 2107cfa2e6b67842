import Derived.Test.YticdbkmekkbiiaaPvSort
set_option linter.unusedVariables false
set_option linter.unusedSimpArgs false
namespace Go.Pv.GS

/-- A search by halves: the place where what is asked turns. -/
theorem halves (L : Int → Int → Option Int) (pred : Nat → Bool) (lo0 hi0 : Nat) (hend : ∀ lo : Nat, lo0 ≤ lo → lo ≤ hi0 → L lo lo = some (lo : Int))
    (hstep : ∀ lo hi : Nat, lo0 ≤ lo → lo < hi → hi ≤ hi0 → L lo hi = if pred ((lo + hi) / 2) = true then L (((lo + hi) / 2 + 1 : Nat) : Int) hi else L lo (((lo + hi) / 2 : Nat) : Int)) :
    ∀ (n lo hi : Nat), hi - lo ≤ n → lo0 ≤ lo → lo ≤ hi → hi ≤ hi0 → ∃ s : Nat, L lo hi = some (s : Int) ∧ lo ≤ s ∧ s ≤ hi ∧ (lo < s → pred (s - 1) = true) ∧ (s < hi → pred s = false) := by
  intro n
  induction n with
  | zero =>
    intro lo hi hn h0 h1 h2
    obtain rfl : lo = hi := by omega
    exact ⟨lo, hend lo h0 h2, Nat.le_refl _, Nat.le_refl _, fun h => by omega, fun h => by omega⟩
  | succ n ih =>
    intro lo hi hn h0 h1 h2
    by_cases he : lo = hi
    · subst he; exact ⟨lo, hend lo h0 h2, Nat.le_refl _, Nat.le_refl _, fun h => by omega, fun h => by omega⟩
    rw [hstep lo hi h0 (by omega) h2]
    cases e : pred ((lo + hi) / 2) with
    | true =>
      rw [if_pos rfl]
      obtain ⟨s, g1, g2, g3, g4, g5⟩ := ih ((lo + hi) / 2 + 1) hi (by omega) (by omega) (by omega) h2
      refine ⟨s, g1, by omega, g3, fun _ => ?_, g5⟩
      by_cases hs : (lo + hi) / 2 + 1 < s
      · exact g4 hs
      · rw [show s - 1 = (lo + hi) / 2 by omega]; exact e
    | false =>
      rw [if_neg (by simp)]
      obtain ⟨s, g1, g2, g3, g4, g5⟩ := ih lo ((lo + hi) / 2) (by omega) h0 (by omega) (by omega)
      refine ⟨s, g1, g2, by omega, g4, fun _ => ?_⟩
      by_cases hs : s < (lo + hi) / 2
      · exact g5 hs
      · rw [show s = (lo + hi) / 2 by omega]; exact e

theorem at_get {α β : Type} {l : List α} {i : Int} {k : Nat} {x : α} (hi : i = (k : Int)) (hx : l[k]? = some x) (f : α → Option β) : (at? l i >>= f) = f x := by
  subst hi
  have : at? l (k : Int) = some x := by unfold at?; rw [if_pos (by omega)]; simpa using hx
  rw [this]; rfl
theorem ifand {c d : Bool} : ((if c = true then some d else some false) : Option Bool) = some (c && d) := by cases c <;> rfl
theorem ifor {c d : Bool} : ((if c = true then some true else some d) : Option Bool) = some (c || d) := by cases c <;> rfl

section Run
variable {α : Type} {cmp : α → α → Option Int} {lt : α → α → Bool}

theorem srt_get {Y : List α} (hs : Srt lt Y) {i j : Nat} {y z : α} (hi : Y[i]? = some y) (hj : Y[j]? = some z) (hij : i < j) : lt z y = false := by
  obtain ⟨h1, rfl⟩ := List.getElem?_eq_some_iff.1 hi
  obtain ⟨h2, rfl⟩ := List.getElem?_eq_some_iff.1 hj
  exact List.pairwise_iff_getElem.1 hs i j h1 h2 hij

/-- All before a place are below what the last of them is below. -/
theorem take_below (h : SWO lt) {Y : List α} (hs : Srt lt Y) {t : Nat} {x : α} (hb : ∀ z, 0 < t → Y[t - 1]? = some z → lt z x = true) (ht : t ≤ Y.length) : ∀ y ∈ Y.take t, lt y x = true := by
  intro y hy
  obtain ⟨i, hi, rfl⟩ := List.mem_iff_getElem.1 hy
  rw [List.length_take] at hi
  rw [List.getElem_take]
  have hz := hb (Y[t - 1]'(by omega)) (by omega) (by simp)
  by_cases e : i = t - 1
  · subst e; exact hz
  · have h1 := List.pairwise_iff_getElem.1 hs i (t - 1) (by omega) (by omega) (by omega)
    cases e2 : lt Y[i] x with
    | true => rfl
    | false => rw [h.trans _ _ _ e2 h1] at hz; exact hz
theorem take_le (h : SWO lt) {X : List α} (hs : Srt lt X) {t : Nat} {y : α} (hb : ∀ z, 0 < t → X[t - 1]? = some z → lt y z = false) (ht : t ≤ X.length) : ∀ x ∈ X.take t, lt y x = false := by
  intro x hx
  obtain ⟨i, hi, rfl⟩ := List.mem_iff_getElem.1 hx
  rw [List.length_take] at hi
  rw [List.getElem_take]
  have hz := hb (X[t - 1]'(by omega)) (by omega) (by simp)
  by_cases e : i = t - 1
  · subst e; exact hz
  · exact h.trans _ _ _ (List.pairwise_iff_getElem.1 hs i (t - 1) (by omega) (by omega) (by omega)) hz
theorem drop_get {Y : List α} (hs : Srt lt Y) {t : Nat} {z : α} (hz : Y[t]? = some z) : ∀ y ∈ Y.drop t, y = z ∨ lt y z = false := by
  intro y hy
  obtain ⟨i, hi, rfl⟩ := List.mem_iff_getElem.1 hy
  rw [List.length_drop] at hi
  rw [List.getElem_drop]
  by_cases e : i = 0
  · subst e; left
    obtain ⟨h1, h2⟩ := List.getElem?_eq_some_iff.1 hz
    simpa using h2
  · right
    exact srt_get hs hz (by simp : Y[t + i]? = some (Y[t + i]'(by omega))) (by omega)

theorem sym_l1 (x : α) (x0 : Int) : ∀ (Y A R : List α) (k : Int), k = (A.length : Int) → x0 = ((A.length + 1 + Y.length : Nat) : Int) → A.length + 1 + Y.length < 1000000000000 →
    symMerge.l1 x0 (A ++ x :: Y ++ R) k = some (A ++ Y ++ x :: R) := by
  intro Y
  induction Y with
  | nil =>
    intro A R k hk h0 hb
    rw [symMerge.l1, wrap64 (n := x0 - 1) (by omega) (by omega), if_neg (by simp at h0 ⊢; omega)]
    simp
  | cons y Y ih =>
    intro A R k hk h0 hb
    simp only [List.length_cons] at h0 hb
    rw [symMerge.l1, wrap64 (n := x0 - 1) (by omega) (by omega), if_pos (by simp; omega), wrap64 (by omega) (by omega)]
    rw [show A ++ x :: y :: Y ++ R = (A ++ [x]) ++ y :: (Y ++ R) by simp, at_app _ _ _ (by simp; omega)]
    rw [show (A ++ [x]) ++ y :: (Y ++ R) = A ++ x :: (y :: (Y ++ R)) by simp, at_app _ _ _ hk, set_app _ _ _ _ (by rw [hk]; simp)]
    rw [show A ++ y :: (y :: (Y ++ R)) = (A ++ [y]) ++ y :: (Y ++ R) by simp, at_app _ _ _ (by simp; omega), set_app _ _ _ _ (by simp; omega)]
    have := ih (A ++ [y]) R (k + 1) (by simp; omega) (by simp; omega) (by simp; omega)
    simp only [List.append_assoc, List.cons_append, List.singleton_append] at this ⊢
    exact this

theorem sym_l3 (x : α) (A : List α) (x0 : Int) (h0 : x0 = (A.length : Int)) : ∀ (n : Nat) (X R : List α) (k : Int), X.length = n → k = ((A.length + X.length : Nat) : Int) → A.length + X.length < 1000000000000 →
    symMerge.l3 x0 (A ++ X ++ x :: R) k = some (A ++ x :: X ++ R) := by
  intro n
  induction n with
  | zero =>
    intro X R k hn hk hb
    obtain rfl : X = [] := List.length_eq_zero_iff.1 hn
    rw [symMerge.l3, if_neg (by simp at hk ⊢; omega)]; simp
  | succ n ih =>
    intro X R k hn hk hb
    rcases List.eq_nil_or_concat X with rfl | ⟨P, p, rfl⟩
    · simp at hn
    simp only [List.concat_eq_append] at *
    simp only [List.length_append, List.length_singleton] at hn hk hb
    rw [symMerge.l3, if_pos (by simp; omega), wrap64 (by omega) (by omega)]
    rw [show A ++ (P ++ [p]) ++ x :: R = (A ++ P) ++ p :: (x :: R) by simp, at_app _ _ _ (by simp; omega)]
    rw [show (A ++ P) ++ p :: (x :: R) = (A ++ P ++ [p]) ++ x :: R by simp, at_app _ _ _ (by simp; omega), set_app _ _ _ _ (by simp; omega)]
    rw [show (A ++ P ++ [p]) ++ p :: R = (A ++ P) ++ p :: (p :: R) by simp, at_app _ _ _ (by simp; omega), set_app _ _ _ _ (by simp; omega)]
    have := ih P (p :: R) (k - 1) (by omega) (by omega) (by omega)
    rw [this]; simp

theorem get_mid {A X B : List α} {k i : Nat} (h : k = A.length + i) (hi : i < X.length) : (A ++ X ++ B)[k]? = X[i]? := by
  subst h
  rw [List.append_assoc, List.getElem?_append_right (by omega), List.getElem?_append_left (by omega)]
  congr 1; omega

theorem sym_f (hc : Cmp cmp lt) (h : SWO lt) : ∀ (n : Nat) (A X Y C : List α) (a m b : Int), X.length + Y.length ≤ n → 0 < X.length → 0 < Y.length → Srt lt X → Srt lt Y →
    a = (A.length : Int) → m = ((A.length + X.length : Nat) : Int) → b = ((A.length + X.length + Y.length : Nat) : Int) → A.length + X.length + Y.length < 1000000000000 →
    symMerge.f cmp (A ++ X ++ Y ++ C) a m b = some (A ++ mrg lt X Y ++ C) := by
  intro n
  induction n with
  | zero => intro A X Y C a m b hn h1; omega
  | succ n ih =>
    intro A X Y C a m b hn h1 h2 hX hY ha hm hb hB
    rw [symMerge.f]
    by_cases c1 : X.length = 1
    · -- one on the left
      obtain ⟨x, rfl⟩ := List.length_eq_one_iff.1 c1
      simp only [List.length_singleton] at hm hb hB
      rw [wrap64 (n := m - a) (by omega) (by omega), if_pos (by simp; omega)]
      have hg : ∀ k, A.length + 1 ≤ k → k < A.length + 1 + Y.length → (A ++ [x] ++ Y ++ C)[k]? = Y[k - (A.length + 1)]? := fun k hk1 hk2 => by
        have := get_mid (A := A ++ [x]) (X := Y) (B := C) (k := k) (i := k - (A.length + 1)) (by simp; omega) (by omega)
        exact this
      have hx : (A ++ [x] ++ Y ++ C)[A.length]? = some x := by simp
      obtain ⟨s, g1, g2, g3, g4, g5⟩ := halves (fun lo hi => symMerge.l0 cmp (A ++ [x] ++ Y ++ C) a lo hi) (fun k => lt ((Y[k - (A.length + 1)]?).getD x) x) (A.length + 1) (A.length + 1 + Y.length)
        (fun lo _ _ => by (try simp only []); rw [symMerge.l0, if_neg (by simp)])
        (fun lo hi q1 q2 q3 => by
          try simp only []
          rw [symMerge.l0, if_pos (by simp; omega), mid64 (by omega) (by omega) (by omega)]
          have hh : ((lo : Int) + hi) / 2 = (((lo + hi) / 2 : Nat) : Int) := by omega
          have hk := hg ((lo + hi) / 2) (by omega) (by omega)
          have hlt : (lo + hi) / 2 - (A.length + 1) < Y.length := by omega
          obtain ⟨c, hcc, hcl⟩ := hc (Y[(lo + hi) / 2 - (A.length + 1)]) x
          rw [List.getElem?_eq_getElem hlt] at hk ⊢
          rw [at_get hh hk, at_get ha hx, hcc, sb, hcl, Option.getD_some, hh]
          cases lt (Y[(lo + hi) / 2 - (A.length + 1)]) x with
          | true => rw [if_pos rfl, sb, if_pos rfl, wrap64 (by omega) (by omega)]; rfl
          | false => rw [if_neg (by simp), sb, if_neg (by simp)])
        _ (A.length + 1) (A.length + 1 + Y.length) (Nat.le_refl _) (Nat.le_refl _) (by omega) (Nat.le_refl _)
      have e1 : m = ((A.length + 1 : Nat) : Int) := hm
      have e2 : b = ((A.length + 1 + Y.length : Nat) : Int) := hb
      try simp only [] at g1
      rw [e1, e2, g1, sb]
      have ht : s - (A.length + 1) ≤ Y.length := by omega
      have hsplit := List.take_append_drop (s - (A.length + 1)) Y
      have b1 := take_below h hY (t := s - (A.length + 1)) (x := x) (fun z hz hz2 => by
        have := g4 (by omega)
        rw [show s - 1 - (A.length + 1) = s - (A.length + 1) - 1 by omega, hz2] at this
        exact this) ht
      have b2 : ∀ y ∈ Y.drop (s - (A.length + 1)), lt y x = false := by
        by_cases hse : s < A.length + 1 + Y.length
        · have hz := g5 hse
          have hlt : s - (A.length + 1) < Y.length := by omega
          rw [List.getElem?_eq_getElem hlt, Option.getD_some] at hz
          intro y hy
          rcases drop_get hY (List.getElem?_eq_getElem hlt) y hy with rfl | hy2
          · exact hz
          · exact h.trans _ _ _ hz hy2
        · rw [List.drop_eq_nil_of_le (by omega)]; simp
      have hl1 := sym_l1 x (s : Int) (Y.take (s - (A.length + 1))) A (Y.drop (s - (A.length + 1)) ++ C) a ha (by rw [List.length_take]; omega) (by rw [List.length_take]; omega)
      rw [show A ++ [x] ++ Y ++ C = A ++ x :: Y.take (s - (A.length + 1)) ++ (Y.drop (s - (A.length + 1)) ++ C) by
        simp only [List.append_assoc, List.cons_append, List.nil_append]
        rw [← List.append_assoc (Y.take _), hsplit], hl1, sb]
      have m1 := mrg_split (lt := lt) _ [] [x] (Y.take (s - (A.length + 1))) (Y.drop (s - (A.length + 1))) (Nat.le_refl _) (by simp) (fun y hy z hz => by simp at hz; subst hz; exact b1 y hy)
      have m2 := mrg_split (lt := lt) _ [x] [] [] (Y.drop (s - (A.length + 1))) (Nat.le_refl _) (fun z hz y hy => by simp at hz; subst hz; exact b2 y hy) (by simp)
      rw [hsplit] at m1
      simp only [List.nil_append, List.append_nil, mrg_nl, mrg_nr] at m1 m2
      rw [m1, m2]
      simp
    rw [wrap64 (n := m - a) (by omega) (by omega), if_neg (by simp; omega)]
    by_cases c2 : Y.length = 1
    · -- one on the right
      obtain ⟨y, rfl⟩ := List.length_eq_one_iff.1 c2
      simp only [List.length_singleton] at hb hB
      rw [wrap64 (n := b - m) (by omega) (by omega), if_pos (by simp; omega)]
      have hg : ∀ k, A.length ≤ k → k < A.length + X.length → (A ++ X ++ [y] ++ C)[k]? = X[k - A.length]? := fun k hk1 hk2 => by
        have := get_mid (A := A) (X := X) (B := [y] ++ C) (k := k) (i := k - A.length) (by omega) (by omega)
        simpa using this
      have hy : (A ++ X ++ [y] ++ C)[A.length + X.length]? = some y := by
        rw [List.append_assoc (A ++ X), List.getElem?_append_right (by simp)]; simp
      obtain ⟨s, g1, g2, g3, g4, g5⟩ := halves (fun lo hi => symMerge.l2 cmp (A ++ X ++ [y] ++ C) m lo hi) (fun k => !(lt y ((X[k - A.length]?).getD y))) A.length (A.length + X.length)
        (fun lo _ _ => by (try simp only []); rw [symMerge.l2, if_neg (by simp)])
        (fun lo hi q1 q2 q3 => by
          try simp only []
          rw [symMerge.l2, if_pos (by simp; omega), mid64 (by omega) (by omega) (by omega)]
          have hh : ((lo : Int) + hi) / 2 = (((lo + hi) / 2 : Nat) : Int) := by omega
          have hk := hg ((lo + hi) / 2) (by omega) (by omega)
          have hlt : (lo + hi) / 2 - A.length < X.length := by omega
          obtain ⟨c, hcc, hcl⟩ := hc y (X[(lo + hi) / 2 - A.length])
          rw [List.getElem?_eq_getElem hlt] at hk ⊢
          rw [at_get hm hy, at_get hh hk, hcc, sb, hcl, Option.getD_some, hh]
          cases lt y (X[(lo + hi) / 2 - A.length]) with
          | false => rw [if_pos (show (!false) = true from rfl), sb, if_pos (show (!false) = true from rfl), wrap64 (by omega) (by omega)]; rfl
          | true => rw [if_neg (by simp), sb, if_neg (by simp)])
        _ A.length (A.length + X.length) (Nat.le_refl _) (Nat.le_refl _) (by omega) (Nat.le_refl _)
      try simp only [] at g1
      rw [ha, hm] at *
      rw [g1, sb]
      have ht : s - A.length ≤ X.length := by omega
      have hsplit := List.take_append_drop (s - A.length) X
      have b1 := take_le h hX (t := s - A.length) (y := y) (fun z hz hz2 => by
        have := g4 (by omega)
        rw [show s - 1 - A.length = s - A.length - 1 by omega, hz2] at this
        simpa using this) ht
      have b2 : ∀ x ∈ X.drop (s - A.length), lt y x = true := by
        by_cases hse : s < A.length + X.length
        · have hz := g5 hse
          have hlt : s - A.length < X.length := by omega
          rw [List.getElem?_eq_getElem hlt, Option.getD_some] at hz
          have hz' : lt y (X[s - A.length]) = true := by simpa using hz
          intro x hx
          rcases drop_get hX (List.getElem?_eq_getElem hlt) x hx with rfl | hx2
          · exact hz'
          · cases e : lt y x with
            | true => rfl
            | false => rw [h.trans _ _ _ hx2 e] at hz'; exact hz'
        · rw [List.drop_eq_nil_of_le (by omega)]; simp
      have hl3 := sym_l3 y (A ++ X.take (s - A.length)) (s : Int) (by simp; omega) _ (X.drop (s - A.length)) C ((A.length + X.length : Nat) : Int) rfl (by simp; omega) (by simp; omega)
      rw [show A ++ X ++ [y] ++ C = A ++ X.take (s - A.length) ++ X.drop (s - A.length) ++ y :: C by
        simp only [List.append_assoc, List.cons_append, List.nil_append]
        rw [← List.append_assoc (X.take _), hsplit], hl3, sb]
      have m1 := mrg_split (lt := lt) _ (X.take (s - A.length)) (X.drop (s - A.length)) [] [y] (Nat.le_refl _) (fun x hx z hz => by simp at hz; subst hz; exact b1 x hx) (by simp)
      have m2 := mrg_split (lt := lt) _ [] (X.drop (s - A.length)) [y] [] (Nat.le_refl _) (by simp) (fun z hz x hx => by simp at hz; subst hz; exact b2 x hx)
      rw [hsplit] at m1
      simp only [List.nil_append, List.append_nil, mrg_nl, mrg_nr] at m1 m2
      rw [m1, m2]
      simp
    rw [wrap64 (n := b - m) (by omega) (by omega), if_neg (by simp; omega), mid64 (by omega) (by omega) (by omega)]
    generalize hmid : (a + b) / 2 = mid
    rw [wrap64 (n := mid + m) (by omega) (by omega)]
    -- where the search begins and ends
    obtain ⟨lo, hi, hlohi, q1, q2, q3, q4, q5, q6, q7, q8⟩ : ∃ lo hi : Nat, ((if (decide (m > mid)) = true then (some (IntKind.i64.wrap ((mid + m) - b), mid)) else (some (a, m))) : Option (Int × Int)) = some ((lo : Int), (hi : Int)) ∧
        a ≤ (lo : Int) ∧ lo ≤ hi ∧ (hi : Int) ≤ m ∧ (∀ c : Nat, lo ≤ c → c < hi → m ≤ mid + m - 1 - c ∧ mid + m - 1 - (c : Int) < b) ∧ ((lo : Int) = a ∨ mid + m - lo = b) ∧ ((hi : Int) = m ∨ mid + m - hi = m) ∧ (hi : Int) ≤ mid ∧ mid + m - lo ≤ b := by
      by_cases hmm : m > mid
      · refine ⟨(mid + m - b).toNat, mid.toNat, ?_, by omega, by omega, by omega, fun c h1 h2 => by omega, .inr (by omega), .inr (by omega), by omega, by omega⟩
        rw [if_pos (by simpa using hmm), wrap64 (by omega) (by omega)]
        congr 2 <;> omega
      · refine ⟨a.toNat, m.toNat, ?_, by omega, by omega, by omega, fun c h1 h2 => by omega, .inl (by omega), .inl (by omega), by omega, by omega⟩
        rw [if_neg (by simpa using hmm)]
        congr 2 <;> omega
    rw [hlohi, sb]
    try simp only []
    have hgX : ∀ k, A.length ≤ k → k < A.length + X.length → (A ++ X ++ Y ++ C)[k]? = X[k - A.length]? := fun k hk1 hk2 => by
      have := get_mid (A := A) (X := X) (B := Y ++ C) (k := k) (i := k - A.length) (by omega) (by omega)
      simpa using this
    have hgY : ∀ k, A.length + X.length ≤ k → k < A.length + X.length + Y.length → (A ++ X ++ Y ++ C)[k]? = Y[k - (A.length + X.length)]? := fun k hk1 hk2 => by
      have := get_mid (A := A ++ X) (X := Y) (B := C) (k := k) (i := k - (A.length + X.length)) (by simp; omega) (by omega)
      exact this
    obtain ⟨x₀, hx₀⟩ : ∃ x, x ∈ X := List.exists_mem_of_length_pos h1
    let p : Nat := (mid + m - 1).toNat
    have hp : (p : Int) = mid + m - 1 := by show ((mid + m - 1).toNat : Int) = _; omega
    obtain ⟨s, g1, g2, g3, g4, g5⟩ := halves (fun lo hi => symMerge.l4 cmp (A ++ X ++ Y ++ C) a m b lo hi) (fun k => !(lt ((Y[p - k - (A.length + X.length)]?).getD x₀) ((X[k - A.length]?).getD x₀))) lo hi
      (fun lo _ _ => by (try simp only []); rw [symMerge.l4, if_neg (by simp)])
      (fun lo' hi' r1 r2 r3 => by
        try simp only []
        have hq := q4 ((lo' + hi') / 2) (by omega) (by omega)
        rw [symMerge.l4, if_pos (by simp; omega), mid64 (a := (lo' : Int)) (by omega) (by omega) (by omega), mid64 (a := a) (by omega) (by omega) (by omega), hmid]
        have hh : ((lo' : Int) + hi') / 2 = (((lo' + hi') / 2 : Nat) : Int) := by omega
        rw [wrap64 (n := mid + m) (by omega) (by omega), wrap64 (n := mid + m - 1) (by omega) (by omega), wrap64 (n := mid + m - 1 - _) (by omega) (by omega)]
        have hk := hgX ((lo' + hi') / 2) (by omega) (by omega)
        have hk2 := hgY (p - (lo' + hi') / 2) (by omega) (by omega)
        have hlt : (lo' + hi') / 2 - A.length < X.length := by omega
        have hlt2 : p - (lo' + hi') / 2 - (A.length + X.length) < Y.length := by omega
        obtain ⟨c, hcc, hcl⟩ := hc (Y[p - (lo' + hi') / 2 - (A.length + X.length)]) (X[(lo' + hi') / 2 - A.length])
        rw [List.getElem?_eq_getElem hlt] at hk ⊢
        rw [List.getElem?_eq_getElem hlt2] at hk2 ⊢
        rw [at_get (k := p - (lo' + hi') / 2) (by omega) hk2, at_get hh hk, hcc, sb, hcl, Option.getD_some, Option.getD_some, hh]
        cases lt (Y[p - (lo' + hi') / 2 - (A.length + X.length)]) (X[(lo' + hi') / 2 - A.length]) with
        | false => rw [if_pos (show (!false) = true from rfl), sb, if_pos (show (!false) = true from rfl), wrap64 (by omega) (by omega)]; rfl
        | true => rw [if_neg (by simp), sb, if_neg (by simp)])
      _ lo hi (Nat.le_refl _) (Nat.le_refl _) q2 (Nat.le_refl _)
    try simp only [] at g1
    rw [g1, sb, wrap64 (n := mid + m - s) (by omega) (by omega)]
    -- the four parts
    obtain ⟨X1, X2, rfl, l1⟩ : ∃ X1 X2, X = X1 ++ X2 ∧ X1.length = s - A.length := ⟨X.take (s - A.length), X.drop (s - A.length), by simp, by simp; omega⟩
    obtain ⟨Y1, Y2, rfl, l2⟩ : ∃ Y1 Y2, Y = Y1 ++ Y2 ∧ (Y1.length : Int) = mid - s := ⟨Y.take (mid - s).toNat, Y.drop (mid - s).toNat, by simp, by
      rw [List.length_take]; omega⟩
    simp only [List.length_append] at *
    have hX1 : Srt lt X1 := (List.pairwise_append.1 hX).1
    have hX2 : Srt lt X2 := (List.pairwise_append.1 hX).2.1
    have hY1 : Srt lt Y1 := (List.pairwise_append.1 hY).1
    have hY2 : Srt lt Y2 := (List.pairwise_append.1 hY).2.1
    have k1 : ∀ x ∈ X1, ∀ y ∈ Y2, lt y x = false := by
      intro x hx y hy
      have hl1 := List.length_pos_of_mem hx
      have hl2 := List.length_pos_of_mem hy
      have hsl : lo < s := by
        rcases q5 with q5 | q5 <;> omega
      have hz := g4 hsl
      have i1 : s - 1 - A.length = X1.length - 1 := by omega
      have i2 : p - (s - 1) - (A.length + (X1.length + X2.length)) = Y1.length := by omega
      rw [i1, i2, List.getElem?_append_right (by omega), Nat.sub_self, List.getElem?_append_left (by omega), List.getElem?_eq_getElem hl2, List.getElem?_eq_getElem (by omega), Option.getD_some, Option.getD_some] at hz
      have hz : lt Y2[0] X1[X1.length - 1] = false := by simpa using hz
      have a1 := take_le h hX1 (t := X1.length) (y := Y2[0]) (fun z _ hz2 => by
        rw [List.getElem?_eq_getElem (by omega)] at hz2; rw [← Option.some.inj hz2]; exact hz) (Nat.le_refl _) x (by simpa using hx)
      rcases drop_get hY2 (t := 0) (List.getElem?_eq_getElem hl2) y (by simpa using hy) with rfl | hy2
      · exact a1
      · exact h.trans _ _ _ a1 hy2
    have k2 : ∀ y ∈ Y1, ∀ x ∈ X2, lt y x = true := by
      intro y hy x hx
      have hl1 := List.length_pos_of_mem hx
      have hl2 := List.length_pos_of_mem hy
      have hsl : s < hi := by
        rcases q6 with q6 | q6 <;> omega
      have hz := g5 hsl
      have i1 : s - A.length = X1.length := by omega
      have i2 : p - s - (A.length + (X1.length + X2.length)) = Y1.length - 1 := by omega
      rw [i1, i2, List.getElem?_append_left (by omega), List.getElem?_append_right (by omega), Nat.sub_self, List.getElem?_eq_getElem (by omega), List.getElem?_eq_getElem hl1, Option.getD_some, Option.getD_some] at hz
      have hz : lt Y1[Y1.length - 1] X2[0] = true := by simpa using hz
      have a1 := take_below h hY1 (t := Y1.length) (x := X2[0]) (fun z _ hz2 => by
        rw [List.getElem?_eq_getElem (by omega)] at hz2; rw [← Option.some.inj hz2]; exact hz) (Nat.le_refl _) y (by simpa using hy)
      rcases drop_get hX2 (t := 0) (List.getElem?_eq_getElem hl1) x (by simpa using hx) with rfl | hx2
      · exact a1
      · cases e : lt y x with
        | true => rfl
        | false => rw [h.trans _ _ _ hx2 e] at a1; exact a1
    rw [ifand, sb]
    have hrot : (((if (decide ((s : Int) < m) && decide (m < mid + m - s)) = true then ((rotate.f (A ++ (X1 ++ X2) ++ (Y1 ++ Y2) ++ C) s m (mid + m - s)) >>= fun t8 => some t8) else (some (A ++ (X1 ++ X2) ++ (Y1 ++ Y2) ++ C))) : Option (List α))) =
        some (A ++ X1 ++ Y1 ++ X2 ++ Y2 ++ C) := by
      by_cases hr : (s : Int) < m ∧ m < mid + m - s
      · rw [if_pos (by simp; omega)]
        have := rot_f (A ++ X1) X2 Y1 (Y2 ++ C) (s : Int) m (mid + m - s) (by simp; omega) (by simp; omega) (by simp; omega) (by omega) (by omega) (by simp; omega)
        simp only [List.append_assoc] at this ⊢
        rw [this]; rfl
      · rw [if_neg (by simp; omega)]
        rcases (show X2.length = 0 ∨ Y1.length = 0 by omega) with e | e
        · obtain rfl := List.length_eq_zero_iff.1 e; simp
        · obtain rfl := List.length_eq_zero_iff.1 e; simp
    rw [hrot, sb, ifand, sb]
    have hfst : (((if (decide (a < (s : Int)) && decide ((s : Int) < mid)) = true then ((symMerge.f cmp (A ++ X1 ++ Y1 ++ X2 ++ Y2 ++ C) a s mid) >>= fun t11 => some t11) else (some (A ++ X1 ++ Y1 ++ X2 ++ Y2 ++ C))) : Option (List α))) =
        some (A ++ mrg lt X1 Y1 ++ X2 ++ Y2 ++ C) := by
      by_cases hr : a < (s : Int) ∧ (s : Int) < mid
      · rw [if_pos (by simp; omega)]
        have := ih A X1 Y1 (X2 ++ Y2 ++ C) a (s : Int) mid (by omega) (by omega) (by omega) hX1 hY1 ha (by omega) (by omega) (by omega)
        simp only [List.append_assoc] at this ⊢
        rw [this]; rfl
      · rw [if_neg (by simp; omega)]
        rcases (show X1.length = 0 ∨ Y1.length = 0 by omega) with e | e
        · obtain rfl := List.length_eq_zero_iff.1 e; simp [mrg_nl]
        · obtain rfl := List.length_eq_zero_iff.1 e; simp [mrg_nr]
    rw [hfst, sb, ifand, sb]
    have hsnd : (((if (decide (mid < mid + m - (s : Int)) && decide (mid + m - (s : Int) < b)) = true then ((symMerge.f cmp (A ++ mrg lt X1 Y1 ++ X2 ++ Y2 ++ C) mid (mid + m - s) b) >>= fun t11 => some t11) else (some (A ++ mrg lt X1 Y1 ++ X2 ++ Y2 ++ C))) : Option (List α))) =
        some (A ++ mrg lt X1 Y1 ++ mrg lt X2 Y2 ++ C) := by
      by_cases hr : mid < mid + m - (s : Int) ∧ mid + m - (s : Int) < b
      · rw [if_pos (by simp; omega)]
        have := ih (A ++ mrg lt X1 Y1) X2 Y2 C mid (mid + m - s) b (by omega) (by omega) (by omega) hX2 hY2 (by rw [List.length_append, mrg_len]; omega) (by rw [List.length_append, mrg_len]; omega) (by rw [List.length_append, mrg_len]; omega) (by rw [List.length_append, mrg_len]; omega)
        rw [this]; rfl
      · rw [if_neg (by simp; omega)]
        rcases (show X2.length = 0 ∨ Y2.length = 0 by omega) with e | e
        · obtain rfl := List.length_eq_zero_iff.1 e; simp [mrg_nl]
        · obtain rfl := List.length_eq_zero_iff.1 e; simp [mrg_nr]
    rw [hsnd, sb, mrg_split _ X1 X2 Y1 Y2 (Nat.le_refl _) k1 k2]
    simp

/-! ### Blocks -/
def Blk (lt : α → α → Bool) (bs : Nat) (l : List α) : List α :=
  if h : 0 < bs ∧ bs ≤ l.length then S lt (l.take bs) ++ Blk lt bs (l.drop bs) else S lt l
termination_by l.length
decreasing_by simp; omega

theorem Blk_big {bs : Nat} (T R : List α) (h0 : 0 < bs) (hT : T.length = bs) : Blk lt bs (T ++ R) = S lt T ++ Blk lt bs R := by
  rw [Blk, dif_pos ⟨h0, by simp; omega⟩]
  simp [← hT]
theorem Blk_small {bs : Nat} (l : List α) (hl : l.length < bs) : Blk lt bs l = S lt l := by
  rw [Blk, dif_neg (by omega)]
theorem Blk_all {bs : Nat} (l : List α) (h0 : 0 < bs) (hl : l.length ≤ bs) : Blk lt bs l = S lt l := by
  by_cases h : l.length = bs
  · have := Blk_big (lt := lt) l [] h0 h
    rw [List.append_nil, Blk_small [] (by simpa using h0), S_nil, List.append_nil] at this
    exact this
  · exact Blk_small l (by omega)

theorem stb_l0 (hc : Cmp cmp lt) (h : SWO lt) (nn : Int) : ∀ (n : Nat) (D R : List α) (a b : Int), R.length ≤ n → nn = ((D.length + R.length : Nat) : Int) → a = (D.length : Int) → b = a + 20 → D.length + R.length < 100000000000 →
    ∃ (D' R' : List α), stable.l0 cmp nn (D ++ R) a b = some (D' ++ R', (D'.length : Int)) ∧ D'.length + R'.length = D.length + R.length ∧ D' ++ S lt R' = D ++ Blk lt 20 R := by
  intro n
  induction n with
  | zero =>
    intro D R a b hn h1 h2 h3 hb
    obtain rfl : R = [] := List.length_eq_zero_iff.1 (by omega)
    rw [stable.l0, if_neg (by simp at h1 ⊢; omega)]
    exact ⟨D, [], by rw [h2], rfl, by rw [Blk_small _ (by simp)]⟩
  | succ n ih =>
    intro D R a b hn h1 h2 h3 hb
    rw [stable.l0]
    by_cases hr : 20 ≤ R.length
    · rw [if_pos (by simp; omega)]
      obtain ⟨T, R, rfl, hT⟩ : ∃ T R', R = T ++ R' ∧ T.length = 20 := ⟨R.take 20, R.drop 20, by simp, by simp; omega⟩
      simp only [List.length_append] at *
      have := ins_f hc h D T R a b h2 (by omega) (by omega)
      rw [← List.append_assoc, this, sb, wrap64 (by omega) (by omega)]
      obtain ⟨D', R', g1, g2, g3⟩ := ih (D ++ S lt T) R b (b + 20) (by omega) (by simp [S_len]; omega) (by simp [S_len]; omega) rfl (by simp [S_len]; omega)
      refine ⟨D', R', g1, by simp [S_len] at g2; omega, by rw [g3, Blk_big T R (by omega) hT, List.append_assoc]⟩
    · rw [if_neg (by simp; omega)]
      exact ⟨D, R, by rw [h2], rfl, by rw [Blk_small _ (by omega)]⟩

theorem stb_l2 (hc : Cmp cmp lt) (h : SWO lt) (nn : Int) (bs : Nat) (h0 : 0 < bs) : ∀ (n : Nat) (D R : List α) (a b : Int), R.length ≤ n → nn = ((D.length + R.length : Nat) : Int) → a = (D.length : Int) → b = a + 2 * (bs : Int) → D.length + R.length < 100000000000 → bs < 100000000000 →
    ∃ (D' R' : List α), stable.l2 cmp nn (bs : Int) (D ++ Blk lt bs R) a b = some (D' ++ Blk lt bs R', (D'.length : Int)) ∧ D'.length + R'.length = D.length + R.length ∧ R'.length < 2 * bs ∧ D' ++ S lt R' = D ++ Blk lt (2 * bs) R := by
  intro n
  induction n with
  | zero =>
    intro D R a b hn h1 h2 h3 hb hbs
    obtain rfl : R = [] := List.length_eq_zero_iff.1 (by omega)
    rw [stable.l2, if_neg (by simp at h1 ⊢; omega)]
    exact ⟨D, [], by rw [h2], rfl, by simp; omega, by rw [Blk_small (bs := 2 * bs) _ (by simp; omega)]⟩
  | succ n ih =>
    intro D R a b hn h1 h2 h3 hb hbs
    rw [stable.l2]
    by_cases hr : 2 * bs ≤ R.length
    · rw [if_pos (by simp; omega)]
      obtain ⟨T, R, rfl, hT⟩ : ∃ T R', R = T ++ R' ∧ T.length = bs := ⟨R.take bs, R.drop bs, by simp, by simp; omega⟩
      obtain ⟨U, R, rfl, hU⟩ : ∃ T R', R = T ++ R' ∧ T.length = bs := ⟨R.take bs, R.drop bs, by simp, by simp at hr ⊢; omega⟩
      simp only [List.length_append] at *
      rw [Blk_big T _ h0 hT, Blk_big U _ h0 hU, wrap64 (n := a + (bs : Int)) (by omega) (by omega), wrap64 (n := 2 * (bs : Int)) (by omega) (by omega), wrap64 (n := b + _) (by omega) (by omega)]
      have := sym_f hc h _ D (S lt T) (S lt U) (Blk lt bs R) a (a + bs) b (Nat.le_refl _) (by rw [S_len]; omega) (by rw [S_len]; omega) (S_sorted h T) (S_sorted h U) h2 (by rw [S_len]; omega) (by rw [S_len, S_len]; omega) (by rw [S_len, S_len]; omega)
      rw [← List.append_assoc, ← List.append_assoc, this, sb, ← S_append h]
      obtain ⟨D', R', g1, g2, g3, g4⟩ := ih (D ++ S lt (T ++ U)) R b (b + 2 * (bs : Int)) (by omega) (by simp [S_len]; omega) (by simp [S_len]; omega) rfl (by simp [S_len]; omega) hbs
      refine ⟨D', R', g1, by simp [S_len] at g2; omega, g3, ?_⟩
      rw [g4, ← List.append_assoc, Blk_big (T ++ U) R (by omega) (by simp; omega), List.append_assoc]
    · rw [if_neg (by simp; omega)]
      exact ⟨D, R, by rw [h2], rfl, by omega, by rw [Blk_small (bs := 2 * bs) _ (by omega)]⟩

theorem stb_l1 (hc : Cmp cmp lt) (h : SWO lt) (l : List α) (hb : l.length < 10000000000) : ∀ (n bs : Nat), l.length - bs ≤ n → 0 < bs → bs < 50000000000 →
    stable.l1 cmp (l.length : Int) (Blk lt bs l) (bs : Int) = some (S lt l) := by
  intro n
  induction n with
  | zero =>
    intro bs hn h0 hbs
    rw [stable.l1, if_neg (by simp; omega), Blk_all l h0 (by omega)]
  | succ n ih =>
    intro bs hn h0 hbs
    rw [stable.l1]
    by_cases hlt : bs < l.length
    · rw [if_pos (by simp; omega), wrap64 (n := 2 * (bs : Int)) (by omega) (by omega)]
      obtain ⟨D, R, g1, g2, g3, g4⟩ := stb_l2 hc h (l.length : Int) bs h0 _ [] l 0 (2 * (bs : Int)) (Nat.le_refl _) (by simp) (by simp) (by simp) (by simp; omega) (by omega)
      simp only [List.nil_append, List.length_nil, Nat.zero_add] at g1 g2 g4
      rw [g1, sb]
      try simp only []
      rw [wrap64 (n := (D.length : Int) + bs) (by omega) (by omega), wrap64 (n := (bs : Int) * 2) (by omega) (by omega)]
      have hlast : (((if (decide ((D.length : Int) + bs < (l.length : Int))) = true then ((symMerge.f cmp (D ++ Blk lt bs R) D.length (D.length + bs) l.length) >>= fun t4 => some t4) else (some (D ++ Blk lt bs R))) : Option (List α))) = some (Blk lt (2 * bs) l) := by
        rw [← g4]
        by_cases hr : bs < R.length
        · rw [if_pos (by simp; omega)]
          obtain ⟨T, U, rfl, hT⟩ : ∃ T R', R = T ++ R' ∧ T.length = bs := ⟨R.take bs, R.drop bs, by simp, by simp; omega⟩
          simp only [List.length_append] at *
          rw [Blk_big T _ h0 hT, Blk_small U (by omega)]
          have := sym_f hc h _ D (S lt T) (S lt U) [] D.length (D.length + bs) l.length (Nat.le_refl _) (by rw [S_len]; omega) (by rw [S_len]; omega) (S_sorted h T) (S_sorted h U) rfl (by rw [S_len]; omega) (by rw [S_len, S_len]; omega) (by rw [S_len, S_len]; omega)
          simp only [List.append_nil] at this
          rw [← List.append_assoc, this, sb, S_append h]
        · rw [if_neg (by simp; omega), Blk_all R h0 (by omega)]
      rw [hlast, sb, show (bs : Int) * 2 = ((2 * bs : Nat) : Int) by omega]
      exact ih (2 * bs) (by omega) (by omega) (by omega)
    · rw [if_neg (by simp; omega), Blk_all l h0 (by omega)]

/-- The stable sort makes S. -/
theorem sorts (hc : Cmp cmp lt) (h : SWO lt) (l : List α) (hb : l.length < 10000000000) : SortStable.f cmp l = some (S lt l) := by
  unfold SortStable.f stable.f
  obtain ⟨D, R, g1, g2, g3⟩ := stb_l0 hc h (l.length : Int) _ [] l 0 20 (Nat.le_refl _) (by simp) (by simp) rfl (by simp; omega)
  simp only [List.nil_append, List.length_nil, Nat.zero_add] at g1 g2 g3
  rw [g1, sb]
  try simp only []
  have := ins_f hc h D R [] (D.length : Int) (l.length : Int) rfl (by omega) (by omega)
  simp only [List.append_nil] at this
  rw [this, sb, g3]
  have := stb_l1 hc h l hb _ 20 (Nat.le_refl _) (by omega) (by omega)
  rw [show (20 : Int) = ((20 : Nat) : Int) from rfl, this]
  rfl
end Run
end Go.Pv.GS
