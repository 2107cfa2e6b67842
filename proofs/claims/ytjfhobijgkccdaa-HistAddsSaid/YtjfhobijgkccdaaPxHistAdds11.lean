import Derived.Test.YtjfhobijgkccdaaPxHistAdds10
set_option linter.unusedVariables false
set_option linter.unusedSimpArgs false
namespace Go.Proofs.Ytjfhobijgkccdaa.PvGA3
open Go Go.Pv Go.Pv.GS
theorem awake05c : f_pluviallaw05_awake.f = some true := by cbv
theorem mput_new {K V : Type} [DecidableEq K] : ∀ (l : List (K × V)) (k : K) (v : V), (∀ p ∈ l, p.1 ≠ k) → mput l k v = l ++ [(k, v)]
  | [], k, v, _ => rfl
  | p :: l, k, v, h => by rw [mput, if_neg (h p (by simp)), mput_new l k v (fun q hq => h q (by simp [hq]))]; rfl
def sideL (s sc : Int) (l : List TBucket) : List (Tbound_Key × Int) := l.map fun b => ((⟨s, sc, b.f0⟩ : Tbound_Key), b.f1)
def zeroL (z : Int) : List (Tbound_Key × Int) := if 0 < z then [((⟨0, 0, 0⟩ : Tbound_Key), z)] else []
def cellsL (h : THist) : List (Tbound_Key × Int) := zeroL h.f3 ++ sideL 1 h.f1 h.f6 ++ sideL (-1) h.f1 h.f7
theorem sideL_keys {s sc : Int} {l : List TBucket} {p : Tbound_Key × Int} (h : p ∈ sideL s sc l) : ∃ b ∈ l, p = ((⟨s, sc, b.f0⟩ : Tbound_Key), b.f1) := by
  obtain ⟨b, hb, rfl⟩ := List.mem_map.1 h; exact ⟨b, hb, rfl⟩
theorem zeroL_keys {z : Int} {p : Tbound_Key × Int} (h : p ∈ zeroL z) : p = ((⟨0, 0, 0⟩ : Tbound_Key), z) ∧ 0 < z := by
  unfold zeroL at h; split at h
  · simp at h; exact ⟨h, by assumption⟩
  · simp at h
theorem cells_l0 (h : THist) (hl : h.f6.length ≤ 512) (hup : h.f6.Pairwise (fun a b => a.f0 < b.f0)) : ∀ (suf pre : List TBucket) (i : Int), h.f6 = pre ++ suf → i = (pre.length : Int) → f_hist_Cells.l0 h (zeroL h.f3 ++ sideL 1 h.f1 pre) i = some (zeroL h.f3 ++ sideL 1 h.f1 h.f6) := by
  intro suf
  induction suf with
  | nil => intro pre i h1 hi; rw [List.append_nil] at h1; rw [f_hist_Cells.l0, if_neg (by simp [hi, h1]), h1]
  | cons b suf ih =>
    intro pre i h1 hi
    have hlen : h.f6.length = pre.length + (suf.length + 1) := by rw [h1]; simp
    rw [f_hist_Cells.l0, if_pos (by simp; omega), at_mid h1 hi, sb, wrap64 (n := i + 1) (by omega) (by omega), mput_new _ _ _ (fun p hp => by
      rcases List.mem_append.1 hp with hp | hp
      · obtain ⟨rfl, _⟩ := zeroL_keys hp; simp
      · obtain ⟨c, hc, rfl⟩ := sideL_keys hp
        rw [h1] at hup
        have := (List.pairwise_append.1 hup).2.2 c hc b (by simp)
        simp; omega)]
    have := ih (pre ++ [b]) (i + 1) (by simp [h1]) (by simp; omega)
    rw [← this]
    simp [sideL]
theorem cells_l1 (h : THist) (hl : h.f7.length ≤ 512) (hup : h.f7.Pairwise (fun a b => a.f0 < b.f0)) : ∀ (suf pre : List TBucket) (i : Int), h.f7 = pre ++ suf → i = (pre.length : Int) → f_hist_Cells.l1 h (zeroL h.f3 ++ sideL 1 h.f1 h.f6 ++ sideL (-1) h.f1 pre) i = some (cellsL h) := by
  intro suf
  induction suf with
  | nil => intro pre i h1 hi; rw [List.append_nil] at h1; rw [f_hist_Cells.l1, if_neg (by simp [hi, h1]), ← h1]; rfl
  | cons b suf ih =>
    intro pre i h1 hi
    have hlen : h.f7.length = pre.length + (suf.length + 1) := by rw [h1]; simp
    rw [f_hist_Cells.l1, if_pos (by simp; omega), at_mid h1 hi, sb, wrap64 (n := i + 1) (by omega) (by omega), mput_new _ _ _ (fun p hp => by
      rcases List.mem_append.1 hp with hp | hp
      · rcases List.mem_append.1 hp with hp | hp
        · obtain ⟨rfl, _⟩ := zeroL_keys hp; simp
        · obtain ⟨c, hc, rfl⟩ := sideL_keys hp; simp
      · obtain ⟨c, hc, rfl⟩ := sideL_keys hp
        rw [h1] at hup
        have := (List.pairwise_append.1 hup).2.2 c hc b (by simp)
        simp; omega)]
    have := ih (pre ++ [b]) (i + 1) (by simp [h1]) (by simp; omega)
    rw [← this]
    simp [sideL]
theorem cells_eq (h : THist) (hv : Valid h) : f_hist_Cells.f h = some (cellsL h) := by
  unfold f_hist_Cells.f
  have hz : ((if (decide (h.f3 > (0 : Int))) = true then (some (mput ([] : List (Tbound_Key × Int)) (⟨0, 0, 0⟩ : Tbound_Key) h.f3)) else (some ([] : List (Tbound_Key × Int)))) : Option (List (Tbound_Key × Int))) = some (zeroL h.f3) := by
    unfold zeroL
    by_cases c : 0 < h.f3
    · rw [if_pos (by simpa using c), if_pos c]; rfl
    · rw [if_neg (by simpa using c), if_neg c]
  have e0 := cells_l0 h hv.pos.len hv.pos.up h.f6 [] 0 rfl rfl
  have e1 := cells_l1 h hv.neg.len hv.neg.up h.f7 [] 0 rfl rfl
  simp only [sideL, List.map_nil, List.append_nil] at e0 e1
  rw [hz, sb, e0, sb]
  try simp only [sideL]
  rw [e1, sb]
theorem side_bin {l : List TBucket} (hl : l.length ≤ 512) (hc : Canon l) (t : Int) : ∃ (k : Int) (b : Bool), f_slices_BinarySearchFunc_api_Bucket_hist_At_1.f l t = some (k, b) ∧ ((b = false ∧ tot l t = 0) ∨ (b = true ∧ ∃ x, at? l k = some x ∧ x.f1 = tot l t)) := by
  have hi : f_slices_BinarySearchFunc_api_Bucket_hist_At_1.f = binF.f f_hist_At_1.f := by kernel_rfl
  have hcmp : ∀ x, f_hist_At_1.f x t = some (if x.f0 < t then -1 else if x.f0 > t then 1 else 0) := fun x => by
    unfold f_hist_At_1.f; rw [compare_int, sb]
  have hlt : ∀ (i j : Nat) (x y : TBucket), i < j → l[i]? = some x → l[j]? = some y → x.f0 < y.f0 := fun i j x y hij hx hy => by
    obtain ⟨hi', ex⟩ := List.getElem?_eq_some_iff.1 hx
    obtain ⟨hj', ey⟩ := List.getElem?_eq_some_iff.1 hy
    have := List.pairwise_iff_getElem.1 hc.up i j hi' hj' hij
    rw [ex, ey] at this; exact this
  obtain ⟨k, b, hk, hb, e⟩ := binF_eq hcmp l (by omega) (fun i j x y hij hx hy hneg => by
    have hyt : y.f0 < t := by
      by_cases q : y.f0 < t
      · exact q
      · rw [if_neg q] at hneg; split at hneg <;> omega
    have : x.f0 < t := by
      by_cases q : i = j
      · subst q; rw [hx] at hy; simp at hy; subst hy; exact hyt
      · have := hlt i j x y (by omega) hx hy; omega
    rw [if_pos this]; omega)
  have heq : ∀ x : TBucket, (if x.f0 < t then (-1 : Int) else if x.f0 > t then 1 else 0) = 0 ↔ x.f0 = t := fun x => by
    constructor
    · intro h; split at h; omega; split at h <;> omega
    · intro h; rw [if_neg (by omega), if_neg (by omega)]
  refine ⟨k, b, by rw [hi, e], ?_⟩
  cases hbb : b with
  | true =>
    obtain ⟨x, hx, h0⟩ := hb.1 hbb
    have hxt := (heq x).1 h0
    exact .inr ⟨rfl, x, at_nat rfl hx, by rw [← hxt, hc.tot_of (List.mem_of_getElem? hx)]⟩
  | false =>
    refine .inl ⟨rfl, tot_zero (fun y hy hyt => ?_)⟩
    obtain ⟨m, hm, rfl⟩ := List.mem_iff_getElem.1 hy
    have hym := List.getElem?_eq_getElem hm
    by_cases c : m < k
    · have := hk.lo m _ c hym
      rw [(heq _).2 hyt] at this; omega
    · by_cases c2 : m = k
      · subst c2
        have := hb.2 ⟨_, hym, (heq _).2 hyt⟩
        rw [hbb] at this; simp at this
      · have hkl : k < l.length := by omega
        have hyk := List.getElem?_eq_getElem hkl
        have h1 := hk.hi k _ (Nat.le_refl _) hyk
        have h2 := hlt k m _ _ (by omega) hyk hym
        split at h1 <;> omega
theorem at_eq (h : THist) (hv : Valid h) (side idx : Int) : f_hist_At.f h side idx = some (if side = 0 then h.f3 else tot (if side < 0 then h.f7 else h.f6) idx) := by
  unfold f_hist_At.f
  by_cases h0 : side = 0
  · rw [if_pos (by simpa using h0), if_pos h0]
  rw [if_neg (by simpa using h0), if_neg h0]
  have hl : ((if (decide (side < (0 : Int))) = true then (some h.f7) else (some h.f6)) : Option (List TBucket)) = some (if side < 0 then h.f7 else h.f6) := by
    by_cases c : side < 0 <;> simp [c]
  have hs : ∃ s, Side h.f1 h.f2 (if side < 0 then h.f7 else h.f6) := ⟨0, by split; exact hv.neg; exact hv.pos⟩
  obtain ⟨_, hS⟩ := hs
  rw [hl, sb]
  obtain ⟨k, b, e, hb⟩ := side_bin hS.len hS.canon idx
  rw [e, sb]
  rcases hb with ⟨rfl, ht⟩ | ⟨rfl, x, hx, ht⟩
  · rw [if_pos (by simp), ht]
  · rw [if_neg (by simp), hx, sb, ht]
theorem light05 (h : THist) : f_pluviallaw05_Light.f h = some (decide (h.f6.length ≤ 600 ∧ h.f7.length ≤ 600)) := by
  unfold f_pluviallaw05_Light.f
  by_cases c : h.f6.length ≤ 600
  · rw [if_pos (by simp; omega), sb]
    by_cases d : h.f7.length ≤ 600
    · simp [c, d]; omega
    · simp [c, d]; omega
  · rw [if_neg (by simp; omega), sb]; simp [c]
theorem cell_at (h : THist) (hv : Valid h) : ∀ p ∈ cellsL h, 0 < p.2 ∧ f_hist_At.f h p.1.f0 p.1.f2 = some p.2 := by
  intro p hp
  unfold cellsL at hp
  rcases List.mem_append.1 hp with hp | hp
  · rcases List.mem_append.1 hp with hp | hp
    · obtain ⟨rfl, h0⟩ := zeroL_keys hp
      exact ⟨h0, by rw [at_eq h hv]; simp⟩
    · obtain ⟨b, hb, rfl⟩ := sideL_keys hp
      exact ⟨(hv.pos.ok b hb).pos, by rw [at_eq h hv]; simp [hv.pos.canon.tot_of hb]⟩
  · obtain ⟨b, hb, rfl⟩ := sideL_keys hp
    exact ⟨(hv.neg.ok b hb).pos, by rw [at_eq h hv]; simp [hv.neg.canon.tot_of hb]⟩
def sumL (l : List (Tbound_Key × Int)) : Int := (l.map (·.2)).sum
theorem sum_side (s sc : Int) (l : List TBucket) : sumL (sideL s sc l) = cnt l := by
  unfold sumL sideL cnt; rw [List.map_map]; rfl
theorem sum_cells (h : THist) (hv : Valid h) (h3 : 0 ≤ h.f3) : sumL (cellsL h) = h.f4 := by
  have : sumL (cellsL h) = sumL (zeroL h.f3) + sumL (sideL 1 h.f1 h.f6) + sumL (sideL (-1) h.f1 h.f7) := by simp [cellsL, sumL, Int.add_assoc]
  rw [this, sum_side, sum_side, hv.count]
  unfold zeroL
  split
  · simp [sumL]; omega
  · simp [sumL]; omega
end Go.Proofs.Ytjfhobijgkccdaa.PvGA3
set_option linter.unusedVariables false
set_option linter.unusedSimpArgs false
namespace Go.Proofs.Ytjfhobijgkccdaa.PvGA3
open Go Go.Pv Go.Pv.GS
theorem sumL_perm {a b : List (Tbound_Key × Int)} (h : a.Perm b) : sumL a = sumL b := by
  induction h with
  | nil => rfl
  | cons x _ ih => simp only [sumL, List.map_cons, List.sum_cons] at ih ⊢; omega
  | swap x y l => simp only [sumL, List.map_cons, List.sum_cons]; omega
  | trans _ _ h1 h2 => omega
theorem adds_loop (h : THist) (idx : Int) (t : List (Tbound_Key × Int)) : ∀ (q : List (Tbound_Key × Int)) (x : Int), (∀ p ∈ q, 0 < p.2 ∧ f_hist_At.f h p.1.f0 p.1.f2 = some p.2) → 0 ≤ x → x + sumL q < 18446744073709551616 → f_pluviallaw05_HistAdds.l0 h idx t q x = some (.inr (x + sumL q))
  | [], x, _, _, _ => by
    show rloop _ _ _ _ = _
    rw [rloop]
    unfold f_pluviallaw05_HistAdds.d0
    simp [sumL]
  | p :: q, x, hp, h0, hs => by
    obtain ⟨h1, h2⟩ := hp p (by simp)
    have hq := fun r hr => hp r (List.mem_cons_of_mem p hr)
    have hsum : sumL (p :: q) = p.2 + sumL q := by simp [sumL]
    have hnn : 0 ≤ sumL q := isum_nonneg (fun y hy => by
      obtain ⟨r, hr, rfl⟩ := List.mem_map.1 hy
      have := (hq r hr).1; omega)
    have ih := adds_loop h idx t q (x + p.2) hq (by omega) (by omega)
    show rloop _ _ _ _ = _
    rw [rloop]
    unfold f_pluviallaw05_HistAdds.s0
    dsimp only
    rw [if_neg (by simp; omega), h2, sb, sb, if_neg (by simp), sb]
    dsimp only
    rw [wrapU (n := x + p.2) (by omega) (by omega), hsum, ← Int.add_assoc]
    exact ih
theorem adds_l1 (h : THist) (idx x : Int) (hl : h.f6.length ≤ 512) : ∀ (suf pre : List TBucket) (b : Bool) (i : Int), h.f6 = pre ++ suf → i = (pre.length : Int) → f_pluviallaw05_HistAdds.l1 h idx x b i = some (b || decide (∃ c ∈ suf, c.f0 = idx)) := by
  intro suf
  induction suf with
  | nil => intro pre b i h1 hi; rw [List.append_nil] at h1; rw [f_pluviallaw05_HistAdds.l1, if_neg (by simp [hi, h1])]; simp
  | cons c suf ih =>
    intro pre b i h1 hi
    have hlen : h.f6.length = pre.length + (suf.length + 1) := by rw [h1]; simp
    have hb : ((if b = true then (some true) else (some (c.f0 == idx))) : Option (Bool)) = some (b || c.f0 == idx) := by cases b <;> simp
    rw [f_pluviallaw05_HistAdds.l1, if_pos (by simp; omega), at_mid h1 hi, sb, hb, sb, wrap64 (n := i + 1) (by omega) (by omega), ih (pre ++ [c]) _ (i + 1) (by simp [h1]) (by simp; omega)]
    congr 1
    rw [Bool.eq_iff_iff]
    simp [or_assoc]
theorem histAdds_R (h : THist) (idx : Int) (hR : RHist h) (hi : I64 idx) : f_pluviallaw05_HistAdds.f h idx = some true := by
  unfold f_pluviallaw05_HistAdds.f
  have hf := fits_of hR
  rw [light05, sb]
  by_cases hL : h.f6.length ≤ 600 ∧ h.f7.length ≤ 600
  case neg => rw [if_pos (by simp [hL]), sb, if_pos rfl, awake05c, sb]
  rw [if_neg (by simp [hL])]
  obtain ⟨r, er, hr⟩ := check_iff h hf (by omega) (by omega)
  rw [er, sb, sb]
  by_cases h0 : r = 0
  case neg => rw [if_pos (by simpa using h0), awake05c, sb]
  rw [if_neg (by simpa using h0), awake05c]
  have hv := hr.1 h0
  have hz := hf.zero
  have hc := hf.count
  have hsum := sum_cells h hv hz.1
  rw [cells_eq h hv, sb, rchk_eq (o := .inr h.f4) (fun q hq => by
    rw [adds_loop h idx (cellsL h) q 0 (fun p hp => cell_at h hv p (hq.mem_iff.1 hp)) (by omega) (by rw [sumL_perm hq, hsum]; have := hc.2; omega), sumL_perm hq, hsum, Int.zero_add]), sb]
  dsimp only
  rw [adds_l1 h idx h.f4 hv.pos.len h.f6 [] false 0 rfl rfl, sb, sb, if_pos rfl, if_pos (by simp), at_eq h hv, sb, sb]
  simp only [Bool.false_or]
  by_cases c : ∃ b ∈ h.f6, b.f0 = idx
  · obtain ⟨b, hb, rfl⟩ := c
    have := (hv.pos.ok b hb).pos
    have h2 := hv.pos.canon.tot_of hb
    rw [decide_eq_true (show ∃ c ∈ h.f6, c.f0 = b.f0 from ⟨b, hb, rfl⟩)]
    simp [h2, this]
  · rw [decide_eq_false c]
    have := tot_zero (l := h.f6) (i := idx) (fun b hb e => c ⟨b, hb, e⟩)
    simp [this]
end Go.Proofs.Ytjfhobijgkccdaa.PvGA3
