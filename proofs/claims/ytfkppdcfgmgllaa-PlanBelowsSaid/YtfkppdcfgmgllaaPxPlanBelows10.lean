import Derived.Test.YtfkppdcfgmgllaaPxPlanBelows09
set_option linter.unusedVariables false
set_option linter.unusedSimpArgs false
namespace Go.Proofs.Ytfkppdcfgmgllaa.PvGD4
open Go Go.Pv Go.Pv.GS
def wd (k : Int) : Int := if k ≤ 0 then 64 else if k = 1 then 256 else if k = 2 then 1024 else if k = 3 then 4096 else 16384
theorem wd_pos (k : Int) : 64 ≤ wd k ∧ wd k ≤ 16384 := by
  unfold wd
  by_cases h0 : k ≤ 0
  · rw [if_pos h0]; omega
  by_cases h1 : k = 1
  · rw [if_neg h0, if_pos h1]; omega
  by_cases h2 : k = 2
  · rw [if_neg h0, if_neg h1, if_pos h2]; omega
  by_cases h3 : k = 3
  · rw [if_neg h0, if_neg h1, if_neg h2, if_pos h3]; omega
  · rw [if_neg h0, if_neg h1, if_neg h2, if_neg h3]; omega
theorem bwd (k : Int) : IntKind.i64.wrap ((64 : Int) * 2 ^ (min (Int.toNat (IntKind.u64.wrap ((2 : Int) * (IntKind.u64.wrap ((if (if (4 : Int) < k then (4 : Int) else k) > (0 : Int) then (if (4 : Int) < k then (4 : Int) else k) else (0 : Int))))))) 64)) = wd k := by
  unfold wd
  by_cases h4 : 4 < k
  · have : (if (if (4 : Int) < k then (4 : Int) else k) > (0 : Int) then (if (4 : Int) < k then (4 : Int) else k) else (0 : Int)) = 4 := by rw [if_pos h4]; rfl
    rw [this, if_neg (show ¬ k ≤ 0 by omega), if_neg (show ¬ k = 1 by omega), if_neg (show ¬ k = 2 by omega), if_neg (show ¬ k = 3 by omega)]; decide
  by_cases h0 : k ≤ 0
  · have : (if (if (4 : Int) < k then (4 : Int) else k) > (0 : Int) then (if (4 : Int) < k then (4 : Int) else k) else (0 : Int)) = 0 := by rw [if_neg h4, if_neg (by omega)]
    rw [this, if_pos h0]; decide
  rcases (show k = 1 ∨ k = 2 ∨ k = 3 ∨ k = 4 by omega) with rfl | rfl | rfl | rfl <;> decide
theorem bwidth (k : Int) : f_block_Width.f k = some () := by
  unfold f_block_Width.f
  have h : 0 ≤ IntKind.u64.wrap ((2 : Int) * (IntKind.u64.wrap ((if (if (4 : Int) < k then (4 : Int) else k) > (0 : Int) then (if (4 : Int) < k then (4 : Int) else k) else (0 : Int))))) := (u64_wrap _).1
  rw [chkB h]
theorem blow (k t : Int) : f_block_Low.f k t = some () := by
  unfold f_block_Low.f
  rw [bwidth, sb, bwd, chkB (by have := wd_pos k; omega)]
theorem rwidth_l0 (k : Int) : ∀ (m n : Nat), n + m = 4 → (∀ j : Nat, j < n → (j : Int) < k) → f_pluvialref16_Width.l0 k (64 * 4 ^ n : Nat) (n : Int) = some (wd k) := by
  intro m
  have hw : ∀ n : Nat, n ≤ 4 → (∀ j : Nat, j < n → (j : Int) < k) → ¬ ((n : Int) < k ∧ n < 4) → ((64 * 4 ^ n : Nat) : Int) = wd k := fun n hn hk hs => by
    unfold wd
    rcases (show n = 0 ∨ n = 1 ∨ n = 2 ∨ n = 3 ∨ n = 4 by omega) with rfl | rfl | rfl | rfl | rfl
    · rw [if_pos (by omega)]; rfl
    · have := hk 0 (by omega); rw [if_neg (by omega), if_pos (by omega)]; rfl
    · have := hk 1 (by omega); rw [if_neg (by omega), if_neg (by omega), if_pos (by omega)]; rfl
    · have := hk 2 (by omega); rw [if_neg (by omega), if_neg (by omega), if_neg (by omega), if_pos (by omega)]; rfl
    · have := hk 3 (by omega); rw [if_neg (by omega), if_neg (by omega), if_neg (by omega), if_neg (by omega)]; rfl
  induction m with
  | zero =>
    intro n hn hk
    rw [f_pluvialref16_Width.l0]
    have : ((if (decide ((n : Int) < k)) = true then (some (decide ((n : Int) < (4 : Int)))) else (some false)) : Option Bool) = some false := by
      split
      · simp; omega
      · rfl
    rw [this, sb, if_neg (by simp), hw n (by omega) hk (by omega)]
  | succ m ih =>
    intro n hn hk
    rw [f_pluvialref16_Width.l0]
    by_cases h : (n : Int) < k
    · rw [if_pos (by simpa using h), sb, if_pos (by simp; omega), wrap64 (n := (n : Int) + 1) (by omega) (by omega)]
      have hp : 4 ^ n ≤ 4 ^ 4 := Nat.pow_le_pow_right (by omega) (by omega)
      rw [wrap64 (by omega) (by omega)]
      have := ih (n + 1) (by omega) (fun j hj => by
        by_cases e : j = n
        · subst e; exact h
        · exact hk j (by omega))
      rw [show ((64 * 4 ^ n : Nat) : Int) * 4 = ((64 * 4 ^ (n + 1) : Nat) : Int) by rw [Nat.pow_succ]; omega]
      exact this
    · rw [if_neg (by simpa using h), sb, if_neg (by simp), hw n (by omega) hk (by omega)]
theorem rwidth (k : Int) : f_pluvialref16_Width.f k = some (wd k) := by
  unfold f_pluvialref16_Width.f
  rw [show f_pluvialref16_Width.l0 k 64 0 = _ from rwidth_l0 k 4 0 rfl (fun j hj => by omega), sb]
abbrev It := Tpluvialref17_Item
def okI (x : It) : Prop := 0 ≤ x.f1 ∧ x.f1 ≤ 4 ∧ 0 ≤ x.f2 ∧ x.f2 ≤ 1099511627776 ∧ x.f2 % wd x.f1 = 0 ∧ x.f3 = x.f2 + wd x.f1
instance decOk (x : It) : Decidable (okI x) := by unfold okI; infer_instance
def RightI (l : List It) : Prop := (∀ x ∈ l, okI x) ∧ l.Pairwise (fun a b => a.f0 ≠ b.f0)
theorem right_l1 (l : List It) (hl : l.length < 1000000) (k : Nat) (x : It) (hk : l[k]? = some x) : ∀ (m n : Nat), n + m = k → (∃ j y, n ≤ j ∧ j < k ∧ l[j]? = some y ∧ y.f0 = x.f0 ∧ f_pluvialref17_Right.l1 l (k : Int) (n : Int) = some (.inl false)) ∨ ((∀ j y, n ≤ j → j < k → l[j]? = some y → y.f0 ≠ x.f0) ∧ f_pluvialref17_Right.l1 l (k : Int) (n : Int) = some (.inr ())) := by
  intro m
  have hkl := (List.getElem?_eq_some_iff.1 hk).1
  induction m with
  | zero => intro n h; rw [f_pluvialref17_Right.l1, if_neg (by simp; omega)]; exact .inr ⟨fun j y h1 h2 => by omega, rfl⟩
  | succ m ih =>
    intro n h
    have hn : l[n]? = some l[n] := List.getElem?_eq_getElem (by omega)
    rw [f_pluvialref17_Right.l1, if_pos (by simp; omega), at_nat rfl hn, sb, at_nat rfl hk, sb, wrap64 (by omega) (by omega)]
    by_cases e : l[n].f0 = x.f0
    · rw [if_pos (by simpa using e)]
      exact .inl ⟨n, _, Nat.le_refl _, by omega, hn, e, rfl⟩
    · rw [if_neg (by simpa using e)]
      rcases ih (n + 1) (by omega) with ⟨j, y, h1, h2, h3, h4, h5⟩ | ⟨h1, h2⟩
      · exact .inl ⟨j, y, by omega, h2, h3, h4, h5⟩
      · refine .inr ⟨fun j y g1 g2 g3 => ?_, h2⟩
        by_cases ej : j = n
        · subst ej; rw [hn] at g3; simp at g3; rw [← g3]; exact e
        · exact h1 j y (by omega) g2 g3
theorem right_l0 (l : List It) (hl : l.length < 1000000) (hI : ∀ x ∈ l, I64 x.f2) : ∀ (suf pre : List It) (i : Int), l = pre ++ suf → i = (pre.length : Int) → RightI pre →
    (RightI l ∧ f_pluvialref17_Right.l0 l i = some (.inr ())) ∨ (¬ RightI l ∧ f_pluvialref17_Right.l0 l i = some (.inl false)) := by
  intro suf
  induction suf with
  | nil => intro pre i h1 hi hR; rw [List.append_nil] at h1; subst h1; rw [f_pluvialref17_Right.l0, if_neg (by simp [hi])]; exact .inl ⟨hR, rfl⟩
  | cons x suf ih =>
    intro pre i h1 hi hR
    have hlen : l.length = pre.length + (suf.length + 1) := by rw [h1]; simp
    have hx : l[pre.length]? = some x := by rw [h1]; simp
    have hxI := hI x (by rw [h1]; simp)
    rw [f_pluvialref17_Right.l0, if_pos (by simp; omega), hi]
    rcases right_l1 l hl pre.length x hx pre.length 0 (by omega) with ⟨j, y, _, h2, h3, h4, h5⟩ | ⟨h2, h3⟩
    · rw [show f_pluvialref17_Right.l1 l (pre.length : Int) 0 = _ from h5, sb]
      refine .inr ⟨fun hR => ?_, rfl⟩
      have := List.pairwise_iff_getElem.1 hR.2 j pre.length (List.getElem?_eq_some_iff.1 h3).1 (List.getElem?_eq_some_iff.1 hx).1 h2
      rw [(List.getElem?_eq_some_iff.1 h3).2, (List.getElem?_eq_some_iff.1 hx).2] at this
      exact this h4
    · rw [show f_pluvialref17_Right.l1 l (pre.length : Int) 0 = _ from h3, sb]
      dsimp only
      rw [at_nat rfl hx, sb, wrap64 (n := (pre.length : Int) + 1) (by omega) (by omega)]
      have hw := wd_pos x.f1
      have hb : ((if (decide (x.f1 < (0 : Int))) = true then (some true) else (if (decide (x.f1 > (4 : Int))) = true then (some true) else (if (decide (x.f2 < (0 : Int))) = true then (some true) else (if (decide (x.f2 > (1099511627776 : Int))) = true then (some true) else ((f_pluvialref16_Width.f x.f1) >>= fun t98 => (chk (t98 ≠ 0)) >>= fun _ => if ((Int.tmod x.f2 t98) != (0 : Int)) = true then (some true) else ((f_pluvialref16_Width.f x.f1) >>= fun t102 => some (x.f3 != (IntKind.i64.wrap (x.f2 + t102))))))))) : Option (Bool)) = some (!decide (okI x)) := by
        by_cases c1 : x.f1 < 0
        · rw [if_pos (by simpa using c1), decide_eq_false (fun h => by have := h.1; omega)]; rfl
        rw [if_neg (by simpa using c1)]
        by_cases c2 : x.f1 > 4
        · rw [if_pos (by simpa using c2), decide_eq_false (fun h => by have := h.2.1; omega)]; rfl
        rw [if_neg (by simpa using c2)]
        by_cases c3 : x.f2 < 0
        · rw [if_pos (by simpa using c3), decide_eq_false (fun h => by have := h.2.2.1; omega)]; rfl
        rw [if_neg (by simpa using c3)]
        by_cases c4 : x.f2 > 1099511627776
        · rw [if_pos (by simpa using c4), decide_eq_false (fun h => by have := h.2.2.2.1; omega)]; rfl
        rw [if_neg (by simpa using c4), rwidth, sb, chkB (by omega), Int.tmod_eq_emod_of_nonneg (by omega)]
        by_cases c5 : x.f2 % wd x.f1 = 0
        · rw [if_neg (by simpa using c5), sb, wrap64 (by omega) (by omega)]
          by_cases c6 : x.f3 = x.f2 + wd x.f1
          · rw [decide_eq_true (show okI x from ⟨by omega, by omega, by omega, by omega, c5, c6⟩)]; simp [c6]
          · rw [decide_eq_false (fun h => c6 h.2.2.2.2.2)]; simp [c6]
        · rw [if_pos (by simpa using c5), decide_eq_false (fun h => c5 h.2.2.2.2.1)]; rfl
      rw [hb, sb]
      by_cases ho : okI x
      · rw [if_neg (by rw [decide_eq_true ho]; simp)]
        refine ih (pre ++ [x]) _ (by simp [h1]) (by simp) ⟨fun y hy => ?_, List.pairwise_append.2 ⟨hR.2, List.pairwise_singleton _ _, fun y hy z hz => ?_⟩⟩
        · rcases List.mem_append.1 hy with hy | hy
          · exact hR.1 y hy
          · simp at hy; subst hy; exact ho
        · simp at hz; subst hz
          obtain ⟨j, hj⟩ := List.getElem?_of_mem hy
          have hjl := (List.getElem?_eq_some_iff.1 hj).1
          exact h2 j y (by omega) hjl (by rw [h1, List.getElem?_append_left hjl]; exact hj)
      · rw [if_pos (by rw [decide_eq_false ho]; rfl)]
        exact .inr ⟨fun hR => ho (hR.1 x (by rw [h1]; simp)), rfl⟩
theorem right17 (l : List It) (hl : l.length < 1000000) (hI : ∀ x ∈ l, I64 x.f2) : (RightI l ∧ f_pluvialref17_Right.f l = some true) ∨ (¬ RightI l ∧ f_pluvialref17_Right.f l = some false) := by
  unfold f_pluvialref17_Right.f
  rcases right_l0 l hl hI l [] 0 rfl rfl ⟨by simp, List.Pairwise.nil⟩ with ⟨h, e⟩ | ⟨h, e⟩
  · rw [e, sb]; exact .inl ⟨h, rfl⟩
  · rw [e, sb]; exact .inr ⟨h, rfl⟩
def toP (x : It) : Tplan_Item := ⟨x.f0, ⟨x.f2, x.f3, x.f1⟩⟩
def ofP (x : Tplan_Item) : It := ⟨x.f0, x.f1.f2, x.f1.f0, x.f1.f1⟩
theorem to17_l0 (l : List It) (hl : l.length < 1000000) : ∀ (suf pre : List It) (i : Int), l = pre ++ suf → i = (pre.length : Int) → f_pluviallaw17_To.l0 l (pre.map toP) i = some (l.map toP) := by
  intro suf
  induction suf with
  | nil => intro pre i h1 hi; rw [f_pluviallaw17_To.l0, if_neg (by rw [h1]; simp [hi]), h1, List.append_nil]
  | cons b suf ih =>
    intro pre i h1 hi
    have hlen : l.length = pre.length + (suf.length + 1) := by rw [h1]; simp
    have next := ih (pre ++ [b]) (i + 1) (by simp [h1]) (by simp; omega)
    rw [List.map_append] at next
    rw [f_pluviallaw17_To.l0, if_pos (by simp; omega), at_mid h1 hi, sb, chkB (by simp; omega), wrap64 (by omega) (by omega)]
    exact next
theorem to17 (l : List It) (hl : l.length < 1000000) : f_pluviallaw17_To.f l = some (l.map toP) := by
  unfold f_pluviallaw17_To.f; rw [show f_pluviallaw17_To.l0 l [] 0 = _ from to17_l0 l hl l [] 0 rfl rfl, sb]
def atL (k : Int) (x : It) : Int := x.f2 / wd k * wd k
theorem atL_rng {k : Int} {x : It} (h : okI x) : 0 ≤ atL k x ∧ atL k x ≤ x.f2 ∧ x.f2 < atL k x + wd k := by
  have hw := wd_pos k
  have h0 := h.2.2.1
  unfold atL
  have h1 := Int.mul_ediv_add_emod x.f2 (wd k)
  have h2 := Int.emod_nonneg x.f2 (show wd k ≠ 0 by omega)
  have h3 := Int.emod_lt_of_pos x.f2 (show 0 < wd k by omega)
  have h4 : 0 ≤ x.f2 / wd k := Int.ediv_nonneg h0 (by omega)
  rw [Int.mul_comm] at h1
  refine ⟨Int.mul_nonneg h4 (by omega), by omega, by omega⟩
theorem atL_low {k : Int} {x : It} (h : okI x) : IntKind.i64.wrap ((if (0 : Int) > x.f2 then (0 : Int) else x.f2) - (Int.tmod (if (0 : Int) > x.f2 then (0 : Int) else x.f2) (IntKind.i64.wrap ((64 : Int) * 2 ^ (min (Int.toNat (IntKind.u64.wrap ((2 : Int) * (IntKind.u64.wrap ((if (if (4 : Int) < k then (4 : Int) else k) > (0 : Int) then (if (4 : Int) < k then (4 : Int) else k) else (0 : Int))))))) 64))))) = atL k x := by
  have h0 := h.2.2.1
  have h5 := h.2.2.2.1
  have hr := atL_rng (k := k) h
  have hw := wd_pos k
  have h1 := Int.mul_ediv_add_emod x.f2 (wd k)
  rw [Int.mul_comm] at h1
  rw [bwd, if_neg (by omega), Int.tmod_eq_emod_of_nonneg h0]
  unfold atL at *
  rw [wrap64 (by omega) (by omega)]
  omega
end Go.Proofs.Ytfkppdcfgmgllaa.PvGD4
set_option maxRecDepth 100000
namespace Go.Proofs.Ytfkppdcfgmgllaa.PvGD4
open Go Go.Pv Go.Pv.GS
theorem awake17 : f_pluviallaw17_awake.f = some true := by cbv
end Go.Proofs.Ytfkppdcfgmgllaa.PvGD4
