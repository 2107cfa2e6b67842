import Derived.Test.YtjfhobijgkccdaaPxHistCells10
set_option linter.unusedVariables false
set_option linter.unusedSimpArgs false
namespace Go.Proofs.Ytjfhobijgkccdaa.PvGA3
open Go Go.Pv Go.Pv.GS
theorem awake05c : f_pluviallaw05_awake.f = some true := by cbv
theorem mput_new {K V : Type} [DecidableEq K] : ∀ (l : List (K × V)) (k : K) (v : V), (∀ p ∈ l, p.1 ≠ k) → mput l k v = l ++ [(k, v)]
  | [], k, v, _ => rfl
  | p :: l, k, v, h => by rw [mput, if_neg (h p (by simp)), mput_new l k v (fun q hq => h q (by simp [hq]))]; rfl
theorem mget_of {K V : Type} [DecidableEq K] : ∀ (l : List (K × V)), l.Pairwise (fun p q => p.1 ≠ q.1) → ∀ p ∈ l, mget l p.1 = some p.2
  | [], _, p, hp => by simp at hp
  | q :: l, h, p, hp => by
    rw [mget]
    rcases List.mem_cons.1 hp with rfl | hp
    · rw [if_pos rfl]
    · rw [if_neg ((List.pairwise_cons.1 h).1 p hp), mget_of l (List.pairwise_cons.1 h).2 p hp]
def sideL (s sc : Int) (l : List TBucket) : List (Tbound_Key × Int) := l.map fun b => ((⟨s, sc, b.f0⟩ : Tbound_Key), b.f1)
def zeroL (z : Int) : List (Tbound_Key × Int) := if 0 < z then [((⟨0, 0, 0⟩ : Tbound_Key), z)] else []
def cellsL (h : THist) : List (Tbound_Key × Int) := zeroL h.f3 ++ sideL 1 h.f1 h.f6 ++ sideL (-1) h.f1 h.f7
theorem sideL_keys {s sc : Int} {l : List TBucket} {p : Tbound_Key × Int} (h : p ∈ sideL s sc l) : ∃ b ∈ l, p = ((⟨s, sc, b.f0⟩ : Tbound_Key), b.f1) := by
  obtain ⟨b, hb, rfl⟩ := List.mem_map.1 h; exact ⟨b, hb, rfl⟩
theorem zeroL_keys {z : Int} {p : Tbound_Key × Int} (h : p ∈ zeroL z) : p = ((⟨0, 0, 0⟩ : Tbound_Key), z) ∧ 0 < z := by
  unfold zeroL at h; split at h
  · simp at h; exact ⟨h, by assumption⟩
  · simp at h
theorem cells_l0 (h : THist) (hl : h.f6.length ≤ 512) (hup : h.f6.Pairwise (fun a b => a.f0 < b.f0)) : ∀ (suf pre : List TBucket) (i : Int), h.f6 = pre ++ suf → i = (pre.length : Int) → f_hist_Cells.l0 h (zeroL h.f3 ++ sideL 1 h.f1 pre) i = some (zeroL h.f3 ++ sideL 1 h.f1 h.f6) := by
  intro suf
  induction suf with
  | nil => intro pre i h1 hi; rw [List.append_nil] at h1; rw [f_hist_Cells.l0, if_neg (by simp [hi, h1]), h1]
  | cons b suf ih =>
    intro pre i h1 hi
    have hlen : h.f6.length = pre.length + (suf.length + 1) := by rw [h1]; simp
    rw [f_hist_Cells.l0, if_pos (by simp; omega), at_mid h1 hi, sb, wrap64 (n := i + 1) (by omega) (by omega), mput_new _ _ _ (fun p hp => by
      rcases List.mem_append.1 hp with hp | hp
      · obtain ⟨rfl, _⟩ := zeroL_keys hp; simp
      · obtain ⟨c, hc, rfl⟩ := sideL_keys hp
        rw [h1] at hup
        have := (List.pairwise_append.1 hup).2.2 c hc b (by simp)
        simp; omega)]
    have := ih (pre ++ [b]) (i + 1) (by simp [h1]) (by simp; omega)
    rw [← this]
    simp [sideL]
theorem cells_l1 (h : THist) (hl : h.f7.length ≤ 512) (hup : h.f7.Pairwise (fun a b => a.f0 < b.f0)) : ∀ (suf pre : List TBucket) (i : Int), h.f7 = pre ++ suf → i = (pre.length : Int) → f_hist_Cells.l1 h (zeroL h.f3 ++ sideL 1 h.f1 h.f6 ++ sideL (-1) h.f1 pre) i = some (cellsL h) := by
  intro suf
  induction suf with
  | nil => intro pre i h1 hi; rw [List.append_nil] at h1; rw [f_hist_Cells.l1, if_neg (by simp [hi, h1]), ← h1]; rfl
  | cons b suf ih =>
    intro pre i h1 hi
    have hlen : h.f7.length = pre.length + (suf.length + 1) := by rw [h1]; simp
    rw [f_hist_Cells.l1, if_pos (by simp; omega), at_mid h1 hi, sb, wrap64 (n := i + 1) (by omega) (by omega), mput_new _ _ _ (fun p hp => by
      rcases List.mem_append.1 hp with hp | hp
      · rcases List.mem_append.1 hp with hp | hp
        · obtain ⟨rfl, _⟩ := zeroL_keys hp; simp
        · obtain ⟨c, hc, rfl⟩ := sideL_keys hp; simp
      · obtain ⟨c, hc, rfl⟩ := sideL_keys hp
        rw [h1] at hup
        have := (List.pairwise_append.1 hup).2.2 c hc b (by simp)
        simp; omega)]
    have := ih (pre ++ [b]) (i + 1) (by simp [h1]) (by simp; omega)
    rw [← this]
    simp [sideL]
theorem cells_eq (h : THist) (hv : Valid h) : f_hist_Cells.f h = some (cellsL h) := by
  unfold f_hist_Cells.f
  have hz : ((if (decide (h.f3 > (0 : Int))) = true then (some (mput ([] : List (Tbound_Key × Int)) (⟨0, 0, 0⟩ : Tbound_Key) h.f3)) else (some ([] : List (Tbound_Key × Int)))) : Option (List (Tbound_Key × Int))) = some (zeroL h.f3) := by
    unfold zeroL
    by_cases c : 0 < h.f3
    · rw [if_pos (by simpa using c), if_pos c]; rfl
    · rw [if_neg (by simpa using c), if_neg c]
  have e0 := cells_l0 h hv.pos.len hv.pos.up h.f6 [] 0 rfl rfl
  have e1 := cells_l1 h hv.neg.len hv.neg.up h.f7 [] 0 rfl rfl
  simp only [sideL, List.map_nil, List.append_nil] at e0 e1
  rw [hz, sb, e0, sb]
  try simp only [sideL]
  rw [e1, sb]
theorem cells_nodup (h : THist) (hv : Valid h) : (cellsL h).Pairwise (fun p q => p.1 ≠ q.1) := by
  have hs : ∀ s (l : List TBucket), l.Pairwise (fun a b => a.f0 < b.f0) → (sideL s h.f1 l).Pairwise (fun p q => p.1 ≠ q.1) := fun s l hl => by
    refine List.pairwise_map.2 (hl.imp (fun {a b} hab => ?_))
    simp; omega
  unfold cellsL
  refine List.pairwise_append.2 ⟨List.pairwise_append.2 ⟨by unfold zeroL; split <;> simp, hs 1 _ hv.pos.up, fun p hp q hq => ?_⟩, hs (-1) _ hv.neg.up, fun p hp q hq => ?_⟩
  · obtain ⟨rfl, _⟩ := zeroL_keys hp
    obtain ⟨c, _, rfl⟩ := sideL_keys hq; simp
  · obtain ⟨c, _, rfl⟩ := sideL_keys hq
    rcases List.mem_append.1 hp with hp | hp
    · obtain ⟨rfl, _⟩ := zeroL_keys hp; simp
    · obtain ⟨d, _, rfl⟩ := sideL_keys hp; simp
theorem side_bin {l : List TBucket} (hl : l.length ≤ 512) (hc : Canon l) (t : Int) : ∃ (k : Int) (b : Bool), f_slices_BinarySearchFunc_api_Bucket_hist_At_1.f l t = some (k, b) ∧ ((b = false ∧ tot l t = 0) ∨ (b = true ∧ ∃ x, at? l k = some x ∧ x.f1 = tot l t)) := by
  have hi : f_slices_BinarySearchFunc_api_Bucket_hist_At_1.f = binF.f f_hist_At_1.f := by kernel_rfl
  have hcmp : ∀ x, f_hist_At_1.f x t = some (if x.f0 < t then -1 else if x.f0 > t then 1 else 0) := fun x => by
    unfold f_hist_At_1.f; rw [compare_int, sb]
  have hlt : ∀ (i j : Nat) (x y : TBucket), i < j → l[i]? = some x → l[j]? = some y → x.f0 < y.f0 := fun i j x y hij hx hy => by
    obtain ⟨hi', ex⟩ := List.getElem?_eq_some_iff.1 hx
    obtain ⟨hj', ey⟩ := List.getElem?_eq_some_iff.1 hy
    have := List.pairwise_iff_getElem.1 hc.up i j hi' hj' hij
    rw [ex, ey] at this; exact this
  obtain ⟨k, b, hk, hb, e⟩ := binF_eq hcmp l (by omega) (fun i j x y hij hx hy hneg => by
    have hyt : y.f0 < t := by
      by_cases q : y.f0 < t
      · exact q
      · rw [if_neg q] at hneg; split at hneg <;> omega
    have : x.f0 < t := by
      by_cases q : i = j
      · subst q; rw [hx] at hy; simp at hy; subst hy; exact hyt
      · have := hlt i j x y (by omega) hx hy; omega
    rw [if_pos this]; omega)
  have heq : ∀ x : TBucket, (if x.f0 < t then (-1 : Int) else if x.f0 > t then 1 else 0) = 0 ↔ x.f0 = t := fun x => by
    constructor
    · intro h; split at h; omega; split at h <;> omega
    · intro h; rw [if_neg (by omega), if_neg (by omega)]
  refine ⟨k, b, by rw [hi, e], ?_⟩
  cases hbb : b with
  | true =>
    obtain ⟨x, hx, h0⟩ := hb.1 hbb
    have hxt := (heq x).1 h0
    exact .inr ⟨rfl, x, at_nat rfl hx, by rw [← hxt, hc.tot_of (List.mem_of_getElem? hx)]⟩
  | false =>
    refine .inl ⟨rfl, tot_zero (fun y hy hyt => ?_)⟩
    obtain ⟨m, hm, rfl⟩ := List.mem_iff_getElem.1 hy
    have hym := List.getElem?_eq_getElem hm
    by_cases c : m < k
    · have := hk.lo m _ c hym
      rw [(heq _).2 hyt] at this; omega
    · by_cases c2 : m = k
      · subst c2
        have := hb.2 ⟨_, hym, (heq _).2 hyt⟩
        rw [hbb] at this; simp at this
      · have hkl : k < l.length := by omega
        have hyk := List.getElem?_eq_getElem hkl
        have h1 := hk.hi k _ (Nat.le_refl _) hyk
        have h2 := hlt k m _ _ (by omega) hyk hym
        split at h1 <;> omega
theorem at_eq (h : THist) (hv : Valid h) (side idx : Int) : f_hist_At.f h side idx = some (if side = 0 then h.f3 else tot (if side < 0 then h.f7 else h.f6) idx) := by
  unfold f_hist_At.f
  by_cases h0 : side = 0
  · rw [if_pos (by simpa using h0), if_pos h0]
  rw [if_neg (by simpa using h0), if_neg h0]
  have hl : ((if (decide (side < (0 : Int))) = true then (some h.f7) else (some h.f6)) : Option (List TBucket)) = some (if side < 0 then h.f7 else h.f6) := by
    by_cases c : side < 0 <;> simp [c]
  have hs : ∃ s, Side h.f1 h.f2 (if side < 0 then h.f7 else h.f6) := ⟨0, by split; exact hv.neg; exact hv.pos⟩
  obtain ⟨_, hS⟩ := hs
  rw [hl, sb]
  obtain ⟨k, b, e, hb⟩ := side_bin hS.len hS.canon idx
  rw [e, sb]
  rcases hb with ⟨rfl, ht⟩ | ⟨rfl, x, hx, ht⟩
  · rw [if_pos (by simp), ht]
  · rw [if_neg (by simp), hx, sb, ht]
theorem light05 (h : THist) : f_pluviallaw05_Light.f h = some (decide (h.f6.length ≤ 600 ∧ h.f7.length ≤ 600)) := by
  unfold f_pluviallaw05_Light.f
  by_cases c : h.f6.length ≤ 600
  · rw [if_pos (by simp; omega), sb]
    by_cases d : h.f7.length ≤ 600
    · simp [c, d]; omega
    · simp [c, d]; omega
  · rw [if_neg (by simp; omega), sb]; simp [c]
theorem cell_at (h : THist) (hv : Valid h) : ∀ p ∈ cellsL h, 0 < p.2 ∧ f_hist_At.f h p.1.f0 p.1.f2 = some p.2 := by
  intro p hp
  unfold cellsL at hp
  rcases List.mem_append.1 hp with hp | hp
  · rcases List.mem_append.1 hp with hp | hp
    · obtain ⟨rfl, h0⟩ := zeroL_keys hp
      exact ⟨h0, by rw [at_eq h hv]; simp⟩
    · obtain ⟨b, hb, rfl⟩ := sideL_keys hp
      exact ⟨(hv.pos.ok b hb).pos, by rw [at_eq h hv]; simp [hv.pos.canon.tot_of hb]⟩
  · obtain ⟨b, hb, rfl⟩ := sideL_keys hp
    exact ⟨(hv.neg.ok b hb).pos, by rw [at_eq h hv]; simp [hv.neg.canon.tot_of hb]⟩
end Go.Proofs.Ytjfhobijgkccdaa.PvGA3
set_option linter.unusedVariables false
set_option linter.unusedSimpArgs false
namespace Go.Proofs.Ytjfhobijgkccdaa.PvGA3
open Go Go.Pv Go.Pv.GS
def Asked (side s : Int) : Prop := side ≠ 0 ∧ (decide (side > 0) = decide (s > 0))
instance (side s : Int) : Decidable (Asked side s) := by unfold Asked; exact inferInstance
theorem hc_l1 (h : THist) (side idx s : Int) (l : List TBucket) (t : List (Tbound_Key × Int)) (hl : l.length ≤ 512) (hc : Canon l) (hg : ∀ b ∈ l, mget t (⟨s, h.f1, b.f0⟩ : Tbound_Key) = some b.f1 ∧ f_hist_At.f h s b.f0 = some b.f1) :
    ∀ (suf pre : List TBucket) (n all i : Int), l = pre ++ suf → i = (pre.length : Int) → Canon suf → 0 ≤ all → all ≤ 1000000 - suf.length →
      f_pluviallaw05_HistCells.l1 h side idx (s, l) t n all i = some (.inr (if Asked side s ∧ ∃ b ∈ suf, b.f0 = idx then tot suf idx else n, all + suf.length)) := by
  intro suf
  induction suf with
  | nil =>
    intro pre n all i h1 hi _ _ _
    rw [List.append_nil] at h1; subst h1
    rw [f_pluviallaw05_HistCells.l1, if_neg (by simp [hi]), if_neg (by simp)]
    simp
  | cons b suf ih =>
    intro pre n all i h1 hi hcs h0 hb
    have hlen : (l.length : Int) = pre.length + (suf.length + 1) := by rw [h1]; simp
    obtain ⟨g1, g2⟩ := hg b (by rw [h1]; simp)
    simp only [List.length_cons] at hb
    have hm : ((if ((decide (side > (0 : Int))) == (decide (s > (0 : Int)))) = true then (if (side != (0 : Int)) = true then (some (b.f0 == idx)) else (some false)) else (some false)) : Option (Bool)) = some (decide (Asked side s ∧ b.f0 = idx)) := by
      unfold Asked
      by_cases c : decide (side > 0) = decide (s > 0)
      · rw [if_pos (by simpa using c)]
        by_cases d : side = 0
        · rw [if_neg (by simpa using d)]; simp [d]
        · rw [if_pos (by simpa using d)]
          congr 1
          rw [Bool.eq_iff_iff]
          simp only [decide_eq_true_eq, beq_iff_eq, ne_eq]
          exact ⟨fun h => ⟨⟨d, c⟩, h⟩, fun h => h.2⟩
      · rw [if_neg (by simpa using c)]
        simp [c]
    have hp : ((if decide (Asked side s ∧ b.f0 = idx) = true then (some b.f1) else (some n)) : Option Int) = some (if Asked side s ∧ b.f0 = idx then b.f1 else n) := by
      by_cases c : Asked side s ∧ b.f0 = idx
      · rw [if_pos (decide_eq_true c), if_pos c]
      · rw [if_neg (by simpa using c), if_neg c]
    rw [f_pluviallaw05_HistCells.l1, if_pos (by simp; omega), at_mid h1 hi, sb]
    dsimp only
    rw [g1, if_neg (by simp), g2, sb, sb, if_neg (by simp), hm, sb, hp, sb, wrap64 (n := all + 1) (by omega) (by omega), wrap64 (n := i + 1) (by omega) (by omega)]
    rw [ih (pre ++ [b]) _ _ (i + 1) (by simp [h1]) (by simp; omega) hcs.tail (by omega) (by omega)]
    have hlow : ∀ c ∈ suf, c.f0 ≠ b.f0 := fun c hc e => by have := (List.pairwise_cons.1 hcs.up).1 c hc; omega
    congr 3
    · by_cases A : Asked side s
      · by_cases e : b.f0 = idx
        · subst e
          rw [if_neg (fun q => by obtain ⟨_, c, hc, e⟩ := q; exact hlow c hc e), if_pos ⟨A, rfl⟩, if_pos ⟨A, b, by simp, rfl⟩, hcs.tot_head]
        · by_cases f : ∃ c ∈ suf, c.f0 = idx
          · obtain ⟨c, hc, rfl⟩ := f
            rw [if_pos ⟨A, c, hc, rfl⟩, if_pos ⟨A, c, by simp [hc], rfl⟩]
            simp only [tot, if_neg e]; omega
          · rw [if_neg (fun q => f q.2), if_neg (fun q => e q.2), if_neg (fun q => by
              obtain ⟨_, c, hc, hci⟩ := q
              rcases List.mem_cons.1 hc with rfl | hc
              · exact e hci
              · exact f ⟨c, hc, hci⟩)]
      · rw [if_neg (fun q => A q.1), if_neg (fun q => A q.1), if_neg (fun q => A q.1)]
    · simp only [List.length_cons]; omega
theorem perm_two {α : Type} {a b : α} {q : List α} (h : q.Perm [a, b]) : q = [a, b] ∨ q = [b, a] := by
  have hl := h.length_eq
  match q, hl with
  | [x, y], _ =>
    have hx : x ∈ [a, b] := h.mem_iff.1 (by simp)
    simp at hx
    rcases hx with rfl | rfl
    · have := List.perm_singleton.1 (h.cons_inv)
      simp at this; subst this; exact .inl rfl
    · have h2 : [x, y].Perm [x, a] := h.trans (List.Perm.swap x a [])
      have := List.perm_singleton.1 (h2.cons_inv)
      simp at this; subst this; exact .inr rfl
theorem hc_step (h : THist) (side idx s : Int) (l : List TBucket) (t : List (Tbound_Key × Int)) (hl : l.length ≤ 512) (hc : Canon l) (hg : ∀ b ∈ l, mget t (⟨s, h.f1, b.f0⟩ : Tbound_Key) = some b.f1 ∧ f_hist_At.f h s b.f0 = some b.f1) (n all : Int) (h0 : 0 ≤ all) (h1 : all ≤ 2000) :
    f_pluviallaw05_HistCells.s0 h side idx t (s, l) (n, all) = some (.inr (if Asked side s ∧ ∃ b ∈ l, b.f0 = idx then tot l idx else n, all + l.length)) := by
  unfold f_pluviallaw05_HistCells.s0
  dsimp only
  rw [hc_l1 h side idx s l t hl hc hg l [] n all 0 rfl rfl hc h0 (by omega), sb]
theorem histCells_R (h : THist) (side idx : Int) (hR : RHist h) (hs : I64 side) (hi : I64 idx) : f_pluviallaw05_HistCells.f h side idx = some true := by
  unfold f_pluviallaw05_HistCells.f
  have hf := fits_of hR
  rw [light05, sb]
  by_cases hL : h.f6.length ≤ 600 ∧ h.f7.length ≤ 600
  case neg => rw [if_pos (by simp [hL]), sb, if_pos rfl, awake05c, sb]
  rw [if_neg (by simp [hL])]
  obtain ⟨r, er, hr⟩ := ref_check_iff h hf (by omega) (by omega)
  rw [er, sb, sb]
  by_cases h0 : r = 0
  case neg => rw [if_pos (by simpa using h0), awake05c, sb]
  rw [if_neg (by simpa using h0), awake05c]
  have hv := hr.1 h0
  have hz := hf.zero
  have hnd := cells_nodup h hv
  have hlp := hv.pos.len
  have hln := hv.neg.len
  rw [cells_eq h hv, sb]
  have hzc : ((if (decide (h.f3 > (0 : Int))) = true then (if (((mget (cellsL h) (⟨0, 0, 0⟩ : Tbound_Key)).getD 0) != h.f3) = true then (some (.inl false)) else (some (.inr 1))) else (some (.inr 0))) : Option (Bool ⊕ Int)) = some (.inr ((zeroL h.f3).length : Int)) := by
    by_cases c : 0 < h.f3
    · have hm : ((⟨0, 0, 0⟩ : Tbound_Key), h.f3) ∈ cellsL h := by simp [cellsL, zeroL, c]
      have := mget_of _ hnd _ hm
      dsimp only at this
      rw [if_pos (by simpa using c), this, if_neg (by simp)]
      simp [zeroL, c]
    · rw [if_neg (by simpa using c)]; simp [zeroL, c]
  have hgp : ∀ b ∈ h.f6, mget (cellsL h) (⟨1, h.f1, b.f0⟩ : Tbound_Key) = some b.f1 ∧ f_hist_At.f h 1 b.f0 = some b.f1 := fun b hb => by
    have hm : ((⟨1, h.f1, b.f0⟩ : Tbound_Key), b.f1) ∈ cellsL h := by simp only [cellsL, List.mem_append]; exact .inl (.inr (List.mem_map.2 ⟨b, hb, rfl⟩))
    exact ⟨mget_of _ hnd _ hm, (cell_at h hv _ hm).2⟩
  have hgn : ∀ b ∈ h.f7, mget (cellsL h) (⟨-1, h.f1, b.f0⟩ : Tbound_Key) = some b.f1 ∧ f_hist_At.f h (-1) b.f0 = some b.f1 := fun b hb => by
    have hm : ((⟨-1, h.f1, b.f0⟩ : Tbound_Key), b.f1) ∈ cellsL h := by simp only [cellsL, List.mem_append]; exact .inr (List.mem_map.2 ⟨b, hb, rfl⟩)
    exact ⟨mget_of _ hnd _ hm, (cell_at h hv _ hm).2⟩
  have hzl : (zeroL h.f3).length ≤ 1 := by unfold zeroL; split <;> simp
  have hlit : mput (mput ([] : List (Int × (List TBucket))) 1 h.f6) (-1) h.f7 = [(1, h.f6), (-1, h.f7)] := rfl
  have htot : ∀ l : List TBucket, ¬ (∃ b ∈ l, b.f0 = idx) → tot l idx = 0 := fun l hn => tot_zero (fun b hb e => hn ⟨b, hb, e⟩)
  rw [hzc, sb]
  dsimp only
  rw [hlit, rchk_eq (o := .inr (if side > 0 then tot h.f6 idx else if side < 0 then tot h.f7 idx else 0, ((cellsL h).length : Int))) (fun q hq => by
    have hcl : ((cellsL h).length : Int) = (zeroL h.f3).length + h.f6.length + h.f7.length := by simp [cellsL, sideL, Int.add_assoc]
    have A1 : Asked side 1 ↔ side > 0 := by unfold Asked; by_cases c : side > 0 <;> simp [c]; omega
    have A2 : Asked side (-1) ↔ side < 0 := by
      unfold Asked
      by_cases c : side > 0
      · simp [c]; omega
      · simp [c]; omega
    rcases perm_two hq with rfl | rfl
    · show rloop _ _ _ _ = _
      rw [rloop, hc_step h side idx 1 h.f6 _ hlp hv.pos.canon hgp 0 _ (by omega) (by omega), sb]
      dsimp only
      rw [rloop, hc_step h side idx (-1) h.f7 _ hln hv.neg.canon hgn _ _ (by omega) (by omega), sb]
      dsimp only
      rw [rloop]
      unfold f_pluviallaw05_HistCells.d0
      dsimp only
      congr 3
      · simp only [A1, A2]
        by_cases p : side > 0
        · rw [if_neg (fun q => by omega), if_pos p]
          by_cases e : ∃ b ∈ h.f6, b.f0 = idx
          · rw [if_pos ⟨p, e⟩]
          · rw [if_neg (fun q => e q.2), htot _ e]
        · rw [if_neg p]
          by_cases m : side < 0
          · rw [if_pos m]
            by_cases e : ∃ b ∈ h.f7, b.f0 = idx
            · rw [if_pos ⟨m, e⟩]
            · rw [if_neg (fun q => e q.2), if_neg (fun q => p q.1), htot _ e]
          · rw [if_neg m, if_neg (fun q => m q.1), if_neg (fun q => p q.1)]
      · omega
    · show rloop _ _ _ _ = _
      rw [rloop, hc_step h side idx (-1) h.f7 _ hln hv.neg.canon hgn 0 _ (by omega) (by omega), sb]
      dsimp only
      rw [rloop, hc_step h side idx 1 h.f6 _ hlp hv.pos.canon hgp _ _ (by omega) (by omega), sb]
      dsimp only
      rw [rloop]
      unfold f_pluviallaw05_HistCells.d0
      dsimp only
      congr 3
      · simp only [A1, A2]
        by_cases p : side > 0
        · rw [if_pos p]
          by_cases e : ∃ b ∈ h.f6, b.f0 = idx
          · rw [if_pos ⟨p, e⟩]
          · rw [if_neg (fun q => e q.2), if_neg (fun q => by omega), htot _ e]
        · rw [if_neg p, if_neg (fun q => p q.1)]
          by_cases m : side < 0
          · rw [if_pos m]
            by_cases e : ∃ b ∈ h.f7, b.f0 = idx
            · rw [if_pos ⟨m, e⟩]
            · rw [if_neg (fun q => e q.2), htot _ e]
          · rw [if_neg m, if_neg (fun q => m q.1)]
      · omega), sb]
  dsimp only
  have hn : ((if (side == (0 : Int)) = true then (some h.f3) else (some (if side > 0 then tot h.f6 idx else if side < 0 then tot h.f7 idx else 0))) : Option (Int)) = some (if side = 0 then h.f3 else tot (if side < 0 then h.f7 else h.f6) idx) := by
    by_cases c : side = 0
    · rw [if_pos (by simpa using c), if_pos c]
    · rw [if_neg (by simpa using c), if_neg c]
      by_cases p : side > 0
      · rw [if_pos p, if_neg (show ¬ side < 0 by omega)]
      · rw [if_neg p, if_pos (show side < 0 by omega), if_pos (show side < 0 by omega)]
  rw [hn, sb, sb, if_pos rfl, if_pos (by simp), at_eq h hv, sb, sb]
  simp
end Go.Proofs.Ytjfhobijgkccdaa.PvGA3
