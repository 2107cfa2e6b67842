import Derived.Test.YticdbkmekkbiiaaPxMeldDowns10
set_option linter.unusedVariables false
set_option linter.unusedSimpArgs false
namespace Go.Proofs.Yticdbkmekkbiiaa.PvGB
open Go Go.Pv Go.Pv.GS
open Classical
theorem together_l0 (l : List TBucket) (k : Int) (hl : l.length < 1000000) : ∀ (suf pre : List TBucket) (x : List Int) (i : Int), l = pre ++ suf → i = (pre.length : Int) → x.length ≤ pre.length →
    f_pluvialref05_Together.l0 l k x i = some (x ++ (suf.filter (fun b => decide (b.f0 = k))).map (·.f1)) := by
  intro suf
  induction suf with
  | nil => intro pre x i h1 hi _; subst h1; rw [f_pluvialref05_Together.l0, if_neg (by simp [hi])]; simp
  | cons b suf ih =>
    intro pre x i h1 hi hx
    have hlen : (l.length : Int) = pre.length + (suf.length + 1) := by rw [h1]; simp
    rw [f_pluvialref05_Together.l0, if_pos (by simp; omega), at_mid h1 hi, sb, wrap64 (by omega) (by omega)]
    by_cases h : b.f0 = k
    · rw [if_pos (by simpa using h), chkB (by simp; omega), sb, ih (pre ++ [b]) _ (i + 1) (by simp [h1]) (by simp; omega) (by simp; omega)]
      simp [h]
    · rw [if_neg (by simpa using h), sb, ih (pre ++ [b]) _ (i + 1) (by simp [h1]) (by simp; omega) (by simp; omega)]
      simp [h]
theorem tot_sum (l : List TBucket) (k : Int) : ((l.filter (fun b => decide (b.f0 = k))).map (·.f1)).sum = tot l k := by
  induction l with
  | nil => rfl
  | cons b l ih =>
    by_cases h : b.f0 = k
    · rw [List.filter_cons_of_pos (by simpa using h), List.map_cons, List.sum_cons, ih, tot, if_pos h]
    · rw [List.filter_cons_of_neg (by simpa using h), ih, tot, if_neg h]; omega
theorem together_eq (l : List TBucket) (k : Int) (hl : l.length < 1000000) (hn : Nn l) (ht : cnt l < 18446744073709551616) : f_pluvialref05_Together.f l k = some (tot l k, 0) := by
  unfold f_pluvialref05_Together.f
  have h1 := tot_le_cnt hn k
  rw [together_l0 l k hl l [] [] 0 rfl rfl (Nat.le_refl _), sb, List.nil_append, ref_add _ (by
    rw [List.length_map]
    have := List.length_filter_le (fun b : TBucket => decide (b.f0 = k)) l; omega) (by
    intro x hx
    obtain ⟨b, hb, rfl⟩ := List.mem_map.1 hx
    have hb := (List.mem_filter.1 hb).1
    exact ⟨hn b hb, by have := le_cnt hn hb; omega⟩), sb, tot_sum, if_pos (by omega)]
def Cand (hv : Bool) (last : Int) (b : TBucket) : Prop := hv = false ∨ last < b.f0
structure Least (hv : Bool) (last : Int) (l : List TBucket) (fd : Bool) (nx : Int) : Prop where
  none : fd = false → ∀ b ∈ l, ¬ Cand hv last b
  some : fd = true → (∃ b ∈ l, Cand hv last b ∧ b.f0 = nx) ∧ ∀ b ∈ l, Cand hv last b → nx ≤ b.f0
theorem tidy_l1 (l o : List TBucket) (hv : Bool) (last : Int) (hl : l.length < 1000000) : ∀ (suf pre : List TBucket) (fd : Bool) (nx i : Int), l = pre ++ suf → i = (pre.length : Int) → Least hv last pre fd nx →
    ∃ fd' nx', f_pluvialref05_Tidy.l1 l o hv last fd nx i = some (fd', nx') ∧ Least hv last l fd' nx' := by
  intro suf
  induction suf with
  | nil => intro pre fd nx i h1 hi hL; rw [List.append_nil] at h1; subst h1; rw [f_pluvialref05_Tidy.l1, if_neg (by simp [hi])]; exact ⟨_, _, rfl, hL⟩
  | cons b suf ih =>
    intro pre fd nx i h1 hi hL
    have hlen : (l.length : Int) = pre.length + (suf.length + 1) := by rw [h1]; simp
    have e1 : l = (pre ++ [b]) ++ suf := by simp [h1]
    have e2 : i + 1 = ((pre ++ [b]).length : Int) := by simp; omega
    have hc : ((if (!hv) = true then (if (!fd) = true then (some true) else ((at? l i) >>= fun b1857 => some (decide (b1857.f0 < nx)))) else ((at? l i) >>= fun b1860 => if (decide (b1860.f0 > last)) = true then (if (!fd) = true then (some true) else (some (decide (b1860.f0 < nx)))) else (some false))) : Option (Bool)) = some (decide (Cand hv last b ∧ (fd = false ∨ b.f0 < nx))) := by
      rw [at_mid h1 hi, sb, sb]
      unfold Cand
      cases hv <;> cases fd <;> simp
      · by_cases h : last < b.f0 <;> simp [h]
      · by_cases h : last < b.f0 <;> simp [h]
    rw [f_pluvialref05_Tidy.l1, if_pos (by simp; omega), hc, sb, wrap64 (by omega) (by omega)]
    by_cases h : Cand hv last b ∧ (fd = false ∨ b.f0 < nx)
    · rw [if_pos (by simpa using h), at_mid h1 hi, sb, sb]
      simp only []
      refine ih (pre ++ [b]) true b.f0 (i + 1) e1 e2 ⟨fun h => (by cases h), fun _ => ⟨⟨b, by simp, h.1, rfl⟩, fun c hc hcc => ?_⟩⟩
      rcases List.mem_append.1 hc with hc | hc
      · rcases h.2 with h2 | h2
        · exact absurd hcc (hL.none h2 c hc)
        · cases hfd : fd with
          | false => exact absurd hcc (hL.none hfd c hc)
          | true => have := (hL.some hfd).2 c hc hcc; omega
      · simp at hc; subst hc; exact Int.le_refl _
    · rw [if_neg (by simpa using h), sb]
      simp only []
      refine ih (pre ++ [b]) fd nx (i + 1) e1 e2 ⟨fun hf c hc hcc => ?_, fun hf => ⟨?_, fun c hc hcc => ?_⟩⟩
      · rcases List.mem_append.1 hc with hc | hc
        · exact hL.none hf c hc hcc
        · simp at hc; subst hc; exact h ⟨hcc, .inl hf⟩
      · obtain ⟨c, hc, q⟩ := (hL.some hf).1; exact ⟨c, by simp [hc], q⟩
      · rcases List.mem_append.1 hc with hc | hc
        · exact (hL.some hf).2 c hc hcc
        · simp at hc; subst hc
          by_cases h3 : nx ≤ c.f0
          · exact h3
          · exact absurd ⟨hcc, .inr (by omega)⟩ h
theorem tidy_l0_ref (l : List TBucket) (hl : l.length < 1000000) (hp : ∀ b ∈ l, 0 < b.f1) (ht : cnt l < 18446744073709551616) : ∀ (n : Nat) (o : List TBucket) (hv : Bool) (last : Int), (l.filter (fun b => decide (Cand hv last b))).length ≤ n → Canon o → (∀ b ∈ o, ¬ Cand hv last b) → (∀ i, tot o i = if hv = true ∧ i ≤ last then tot l i else 0) → o.length + n ≤ l.length →
    ∃ o', f_pluvialref05_Tidy.l0 l o hv last = some (o', 0) ∧ Canon o' ∧ (∀ i, tot o' i = tot l i) ∧ o'.length ≤ l.length := by
  have hn : Nn l := fun b hb => Int.le_of_lt (hp b hb)
  intro n
  induction n with
  | zero =>
    intro o hv last hm hc ho hto hln
    obtain ⟨fd, nx, e, hL⟩ := tidy_l1 l o hv last hl l [] false 0 0 rfl rfl ⟨by simp, by simp⟩
    have hfd : fd = false := by
      cases hfd : fd with
      | false => rfl
      | true =>
        obtain ⟨b, hb, hbc, _⟩ := (hL.some hfd).1
        have : b ∈ l.filter (fun b => decide (Cand hv last b)) := List.mem_filter.2 ⟨hb, by simpa using hbc⟩
        have := List.length_pos_of_mem this; omega
    rw [f_pluvialref05_Tidy.l0, e, sb]
    simp only [hfd]
    rw [if_pos (by rfl)]
    refine ⟨o, rfl, hc, fun i => ?_, by omega⟩
    rw [hto]
    by_cases h : hv = true ∧ i ≤ last
    · rw [if_pos h]
    · rw [if_neg h, tot_zero]
      rintro b hb rfl
      apply hL.none hfd b hb
      unfold Cand
      cases hv with
      | false => exact .inl rfl
      | true => right; by_cases h2 : last < b.f0; exact h2; exact absurd ⟨rfl, by omega⟩ h
  | succ n ih =>
    intro o hv last hm hc ho hto hln
    obtain ⟨fd, nx, e, hL⟩ := tidy_l1 l o hv last hl l [] false 0 0 rfl rfl ⟨by simp, by simp⟩
    cases hfd : fd with
    | false =>
      rw [f_pluvialref05_Tidy.l0, e, sb]
      simp only [hfd]
      rw [if_pos (by rfl)]
      refine ⟨o, rfl, hc, fun i => ?_, by omega⟩
      rw [hto]
      by_cases h : hv = true ∧ i ≤ last
      · rw [if_pos h]
      · rw [if_neg h, tot_zero]
        rintro b hb rfl
        apply hL.none hfd b hb
        unfold Cand
        cases hv with
        | false => exact .inl rfl
        | true => right; by_cases h2 : last < b.f0; exact h2; exact absurd ⟨rfl, by omega⟩ h
    | true =>
      obtain ⟨⟨b, hb, hbc, hbn⟩, hmin⟩ := hL.some hfd
      have hpos : 0 < tot l nx := by have := tot_mem hn hb; have := hp b hb; rw [hbn] at *; omega
      rw [f_pluvialref05_Tidy.l0, e, sb]
      simp only [hfd]
      rw [if_neg (by simp), together_eq l nx hl hn ht, sb, if_neg (by simp), if_pos (by simpa using hpos), chkB (by simp; omega), sb]
      have hlt : ∀ c ∈ o, c.f0 < nx := fun c hc2 => by
        have := ho c hc2
        unfold Cand at this hbc
        rcases hbc with h1 | h1
        · exact absurd (.inl h1) this
        · have : ¬ last < c.f0 := fun h => this (.inr h)
          omega
      refine ih (o ++ [⟨nx, tot l nx⟩]) true nx ?_ ?_ ?_ ?_ (by simp; omega)
      · 
        have hsub : (l.filter (fun b => decide (Cand true nx b))) = (l.filter (fun b => decide (Cand hv last b))).filter (fun b => decide (nx < b.f0)) := by
          rw [List.filter_filter]
          apply List.filter_congr
          intro c hc2
          unfold Cand
          by_cases h1 : nx < c.f0
          · have : hv = false ∨ last < c.f0 := by
              unfold Cand at hbc
              rcases hbc with h2 | h2
              · exact .inl h2
              · exact .inr (by omega)
            simp [h1, this]
          · simp [h1]
        rw [hsub]
        have hmem : b ∈ l.filter (fun b => decide (Cand hv last b)) := List.mem_filter.2 ⟨hb, by simpa using hbc⟩
        have : ((l.filter (fun b => decide (Cand hv last b))).filter (fun b => decide (nx < b.f0))).length < (l.filter (fun b => decide (Cand hv last b))).length := by
          rw [List.length_filter_lt_length_iff_exists]
          exact ⟨b, hmem, by simp; omega⟩
        omega
      · exact ⟨List.pairwise_append.2 ⟨hc.up, List.pairwise_singleton _ _, fun c hc2 d hd => by simp at hd; subst hd; exact hlt c hc2⟩, fun c hc2 => by
          rcases List.mem_append.1 hc2 with h | h
          · exact hc.pos c h
          · simp at h; subst h; exact hpos⟩
      · intro c hc2 hcc
        unfold Cand at hcc
        rcases List.mem_append.1 hc2 with h | h
        · have := hlt c h; simp at hcc; omega
        · simp at h; subst h; simp at hcc
      · intro i
        rw [tot_append, tot_one, hto]
        simp only [true_and]
        by_cases h1 : i = nx
        · subst h1
          have : ¬ (hv = true ∧ i ≤ last) := by
            rintro ⟨h2, h3⟩
            unfold Cand at hbc
            rcases hbc with h | h
            · rw [h2] at h; cases h
            · omega
          rw [if_neg this, if_pos rfl, if_pos (Int.le_refl _)]; omega
        · rw [if_neg (show ¬ nx = i from fun h => h1 h.symm)]
          by_cases h2 : i ≤ nx
          · rw [if_pos h2]
            by_cases h3 : hv = true ∧ i ≤ last
            · rw [if_pos h3]; omega
            · rw [if_neg h3, tot_zero]
              · rfl
              · rintro c hc2 rfl
                have : Cand hv last c := by
                  unfold Cand
                  cases hv with
                  | false => exact .inl rfl
                  | true => right; by_cases h4 : last < c.f0; exact h4; exact absurd ⟨rfl, by omega⟩ h3
                have := hmin c hc2 this; omega
          · rw [if_neg h2, if_neg]
            · rfl
            · rintro ⟨h3, h4⟩
              unfold Cand at hbc
              rcases hbc with h | h
              · rw [h3] at h; cases h
              · omega
theorem tidy_ref (l : List TBucket) (hl : l.length < 1000000) (hp : ∀ b ∈ l, 0 < b.f1) (ht : cnt l < 18446744073709551616) :
    ∃ o, f_pluvialref05_Tidy.f l = some (o, 0) ∧ Canon o ∧ (∀ i, tot o i = tot l i) ∧ o.length ≤ l.length := by
  unfold f_pluvialref05_Tidy.f
  obtain ⟨o, e, h⟩ := tidy_l0_ref l hl hp ht _ [] false 0 (List.length_filter_le _ _) ⟨List.Pairwise.nil, by simp⟩ (by simp) (by simp [tot]) (by simp)
  rw [e]; exact ⟨o, rfl, h⟩
theorem ref_of {s u k : Int} (hs : RightS s) (hu : -262144 < u ∧ u ≤ 262144) (h1 : (k - 1) * stp s < u) (h2 : u ≤ k * stp s) : f_pluvialref04_Of.f s u = some (k, true) := by
  have hp := stp_pos s
  have hle := stp_le hs
  have hk : -262144 ≤ k ∧ k ≤ 262145 := by
    constructor
    · by_cases h : k < -262144
      · have := Int.mul_le_mul_of_nonneg_right (show k ≤ -262145 by omega) (Int.le_of_lt hp)
        have := Int.mul_le_mul_of_nonneg_left (show 1 ≤ stp s by omega) (show (0 : Int) ≤ 262145 by omega)
        omega
      · omega
    · by_cases h : 262145 < k
      · have := Int.mul_le_mul_of_nonneg_right (show 262145 ≤ k - 1 by omega) (Int.le_of_lt hp)
        have := Int.mul_le_mul_of_nonneg_left (show 1 ≤ stp s by omega) (show (0 : Int) ≤ 262145 by omega)
        omega
      · omega
  have htd : Int.tdiv u (stp s) = k ∨ Int.tdiv u (stp s) = k - 1 := by
    by_cases h0 : 0 ≤ u
    · rw [Int.tdiv_eq_ediv_of_nonneg h0]
      have e1 := Int.ediv_mul_le u (show stp s ≠ 0 by omega)
      have e2 := Int.lt_ediv_add_one_mul_self u hp
      generalize u / stp s = q at *
      have a1 := Int.lt_of_mul_lt_mul_right (show (k - 1) * stp s < (q + 1) * stp s by omega) (Int.le_of_lt hp)
      have a2 := Int.le_of_mul_le_mul_right (show q * stp s ≤ k * stp s by omega) hp
      omega
    · have e0 : Int.tdiv u (stp s) = -((-u) / stp s) := by
        rw [← Int.tdiv_eq_ediv_of_nonneg (show 0 ≤ -u by omega), Int.neg_tdiv]; omega
      rw [e0]
      have e1 := Int.ediv_mul_le (-u) (show stp s ≠ 0 by omega)
      have e2 := Int.lt_ediv_add_one_mul_self (-u) hp
      generalize (-u) / stp s = q at *
      rw [Int.add_mul] at e2
      rw [Int.sub_mul] at h1
      have a1 := Int.le_of_mul_le_mul_right (show q * stp s ≤ (-(k - 1)) * stp s by rw [Int.neg_mul, Int.sub_mul]; omega) hp
      have a2 := Int.lt_of_mul_lt_mul_right (show (-k) * stp s < (q + 1) * stp s by rw [Int.neg_mul, Int.add_mul]; omega) (Int.le_of_lt hp)
      by_cases hq : q = -k
      · omega
      · have : q = 1 - k := by omega
        subst this
        rw [Int.sub_mul] at e1; omega
  have hU : ∀ j : Int, j = k ∨ j = k - 1 → f_pluvialref04_Units.f s j = some (j * stp s) := fun j hj => ref_units hs (by omega)
  have hl1 : f_pluvialref04_Of.l1 s u k = some k := by
    rw [f_pluvialref04_Of.l1, wrap64 (by omega) (by omega), hU _ (.inr rfl), sb, if_neg (by simp; omega)]
  have hl0k : f_pluvialref04_Of.l0 s u k = some k := by
    rw [f_pluvialref04_Of.l0, hU _ (.inl rfl), sb, if_neg (by simp; omega)]
  have hl0 : f_pluvialref04_Of.l0 s u (Int.tdiv u (stp s)) = some k := by
    rcases htd with h | h
    · rw [h, hl0k]
    · rw [h, f_pluvialref04_Of.l0, hU _ (.inr rfl), sb, if_pos (by simp; omega), wrap64 (by omega) (by omega), show k - 1 + 1 = k by omega, hl0k]
  unfold f_pluvialref04_Of.f
  rw [ref_right, sb, if_neg (by simp [hs]), if_neg (by simp; omega), sb, if_neg (by simp; omega), ref_step hs, sb, chkB (by omega), wrap64 (by rcases htd with h | h <;> omega) (by rcases htd with h | h <;> omega), hl0, sb, hl1, sb]
theorem ref_to {f t i : Int} (hf : RightS f) (ht : RightS t) (h : t ≤ f) (hi : InS f i) : f_pluvialref04_To.f f t i = some (upI f t i, 0) := by
  have hsm := inS_small hi
  obtain ⟨h3, h4⟩ := upI_spec f t i
  have hst := stp_rat h hf.2
  have hp := stp_pos f
  unfold f_pluvialref04_To.f
  rw [ref_right, sb, if_neg (by simp [hf]), ref_right, sb, if_neg (by simp [ht]), sb, if_neg (by simp; omega), ref_in hf (inS_i64 hi), sb, if_neg (by simp [hi]), ref_units hf (by omega), sb,
    ref_of ht hi (k := upI f t i) (by
      rw [hst, Int.mul_comm (stp f), ← Int.mul_assoc]
      exact Int.mul_lt_mul_of_pos_right h3 hp) (by
      rw [hst, Int.mul_comm (stp f), ← Int.mul_assoc]
      exact Int.mul_le_mul_of_nonneg_right h4 (Int.le_of_lt hp)), sb]
theorem coarse_l0 (l : List TBucket) (f t : Int) (hf : RightS f) (ht : RightS t) (h : t ≤ f) (hl : l.length < 1000000) (hi : ∀ b ∈ l, InS f b.f0) : ∀ (suf pre o : List TBucket) (i : Int), l = pre ++ suf → i = (pre.length : Int) → o.length = pre.length →
    f_pluvialref07_coarse.l0 l f t o i = some (o ++ downL f t suf) := by
  intro suf
  induction suf with
  | nil => intro pre o i h1 hi0 _; subst h1; rw [f_pluvialref07_coarse.l0, if_neg (by simp [hi0])]; simp [downL]
  | cons x suf ih =>
    intro pre o i h1 hi0 ho
    have hx := hi x (by rw [h1]; simp)
    have hlen : (l.length : Int) = pre.length + (suf.length + 1) := by rw [h1]; simp
    rw [f_pluvialref07_coarse.l0, if_pos (by simp; omega), at_mid h1 hi0, sb, ref_to hf ht h hx, sb, chkB (by simp; omega), wrap64 (by omega) (by omega)]
    rw [ih (pre ++ [x]) _ (i + 1) (by simp [h1]) (by simp; omega) (by simp; omega)]
    simp [downL]
theorem coarse_eq (l : List TBucket) (f t : Int) (hf : RightS f) (ht : RightS t) (h : t ≤ f) (hc : Cs f l) (hct : cnt l < 18446744073709551616) :
    ∃ o, f_pluvialref07_coarse.f l f t = some o ∧ Canon o ∧ (∀ i, tot o i = tot (downL f t l) i) ∧ o.length ≤ l.length := by
  have hl := hc.len
  have hd := cs_down hf ht h hc
  obtain ⟨o, e, h1, h2, h3⟩ := tidy_ref (downL f t l) (by rw [downL_len]; omega) hd.pos (by rw [cnt_downL]; exact hct)
  unfold f_pluvialref07_coarse.f
  rw [coarse_l0 l f t hf ht h (by omega) hc.ins l [] [] 0 rfl rfl rfl, sb, List.nil_append, e]
  exact ⟨o, rfl, h1, h2, by rw [downL_len] at h3; exact h3⟩
theorem within_l0 (s a : Int) (l : List TBucket) (hs : RightS s) (hl : l.length < 1000000000) (hi : ∀ b ∈ l, InS s b.f0) : ∀ (suf pre : List TBucket) (i : Int), l = pre ++ suf → i = (pre.length : Int) →
    f_pluvialref07_within.l0 s l a i = some (if Strad s a suf then .inl (cg s a) else .inr ()) := by
  intro suf
  induction suf with
  | nil => intro pre i h1 hi0; subst h1; rw [f_pluvialref07_within.l0, if_neg (by simp [hi0]), if_neg (by simp [Strad])]
  | cons x suf ih =>
    intro pre i h1 hi0
    have hx := hi x (by rw [h1]; simp)
    have hsm := inS_small hx
    have hlen : (l.length : Int) = pre.length + (suf.length + 1) := by rw [h1]; simp
    rw [f_pluvialref07_within.l0, if_pos (by simp; omega), at_mid h1 hi0, sb, sb, wrap64 (n := x.f0 - 1) (by omega) (by omega), ref_units hs (i := x.f0 - 1) (by omega), sb, ref_units hs (i := x.f0) (by omega), sb, sb, ifand, sb]
    by_cases hc : (x.f0 - 1) * stp s < a ∧ a < x.f0 * stp s
    · rw [if_pos (by simpa using hc), if_pos ⟨x, by simp, hc⟩, cg_eq hc.1 (by omega)]
    · rw [if_neg (by simpa using hc), wrap64 (by omega) (by omega), ih (pre ++ [x]) (i + 1) (by simp [h1]) (by simp; omega)]
      have : Strad s a (x :: suf) ↔ Strad s a suf := by
        constructor
        · rintro ⟨b, hb, h⟩
          rcases List.mem_cons.1 hb with rfl | hb
          · exact absurd h hc
          · exact ⟨b, hb, h⟩
        · rintro ⟨b, hb, h⟩; exact ⟨b, by simp [hb], h⟩
      by_cases hst : Strad s a suf
      · rw [if_pos hst, if_pos (this.2 hst)]
      · rw [if_neg hst, if_neg (fun q => hst (this.1 q))]
theorem within_eq (s a : Int) (l : List TBucket) (hs : RightS s) (hl : l.length < 1000000000) (hi : ∀ b ∈ l, InS s b.f0) : f_pluvialref07_within.f s l a = some (if Strad s a l then cg s a else a) := by
  unfold f_pluvialref07_within.f
  rw [within_l0 s a l hs hl hi l [] 0 rfl rfl, sb]
  by_cases hst : Strad s a l
  · rw [if_pos hst, if_pos hst]
  · rw [if_neg hst, if_neg hst]
theorem rsw_l0 (h : THist) (a : Int) (hs : RightS h.f1) (hl : h.f6.length < 1000000) (hi : ∀ b ∈ h.f6, InS h.f1 b.f0) (hU : ∀ b ∈ h.f6, 0 ≤ b.f1) : ∀ (suf pre : List TBucket) (z : Int) (o : List TBucket) (i : Int), h.f6 = pre ++ suf → i = (pre.length : Int) → 0 ≤ z → z + cnt suf < 18446744073709551616 → o.length ≤ pre.length →
    f_pluvialref07_swallow.l0 h a z o i = some (z + cnt (dropL h.f1 a suf), o ++ keepL h.f1 a suf) := by
  intro suf
  induction suf with
  | nil => intro pre z o i h1 hi0 _ _ _; rw [f_pluvialref07_swallow.l0, if_neg (by rw [h1]; simp [hi0])]; simp [cnt]
  | cons x suf ih =>
    intro pre z o i h1 hi0 h0 hz ho
    have hx := hi x (by rw [h1]; simp)
    have hsm := inS_small hx
    have hx1 := hU x (by rw [h1]; simp)
    have hn : 0 ≤ cnt suf := cnt_nonneg (fun b hb => hU b (by rw [h1]; simp [hb]))
    have hlen : (h.f6.length : Int) = pre.length + (suf.length + 1) := by rw [h1]; simp
    rw [cnt_cons] at hz
    rw [f_pluvialref07_swallow.l0, if_pos (by simp; omega), at_mid h1 hi0, sb, ref_units hs (by omega), sb, wrap64 (by omega) (by omega)]
    by_cases hc : a < x.f0 * stp h.f1
    · rw [if_neg (by simp; omega), chkB (by simp; omega), sb]
      simp only []
      rw [ih (pre ++ [x]) z (o ++ [x]) (i + 1) (by simp [h1]) (by simp; omega) h0 (by omega) (by simp; omega)]
      simp [hc]
    · rw [if_pos (by simp; omega), wrapU (by omega) (by omega), sb]
      simp only []
      rw [ih (pre ++ [x]) (z + x.f1) o (i + 1) (by simp [h1]) (by simp; omega) (by omega) (by omega) (by simp; omega)]
      rw [show keepL h.f1 a (x :: suf) = keepL h.f1 a suf from List.filter_cons_of_neg (by simpa using hc), show dropL h.f1 a (x :: suf) = x :: dropL h.f1 a suf from List.filter_cons_of_pos (by simpa using hc), cnt_cons, Int.add_assoc]
theorem rsw_l1 (h : THist) (a : Int) (q : List TBucket) (hs : RightS h.f1) (hl : h.f7.length < 1000000) (hi : ∀ b ∈ h.f7, InS h.f1 b.f0) (hU : ∀ b ∈ h.f7, 0 ≤ b.f1) : ∀ (suf pre : List TBucket) (z : Int) (o : List TBucket) (i : Int), h.f7 = pre ++ suf → i = (pre.length : Int) → 0 ≤ z → z + cnt suf < 18446744073709551616 → o.length ≤ pre.length →
    f_pluvialref07_swallow.l1 h a q z o i = some (z + cnt (dropL h.f1 a suf), o ++ keepL h.f1 a suf) := by
  intro suf
  induction suf with
  | nil => intro pre z o i h1 hi0 _ _ _; rw [f_pluvialref07_swallow.l1, if_neg (by rw [h1]; simp [hi0])]; simp [cnt]
  | cons x suf ih =>
    intro pre z o i h1 hi0 h0 hz ho
    have hx := hi x (by rw [h1]; simp)
    have hsm := inS_small hx
    have hx1 := hU x (by rw [h1]; simp)
    have hn : 0 ≤ cnt suf := cnt_nonneg (fun b hb => hU b (by rw [h1]; simp [hb]))
    have hlen : (h.f7.length : Int) = pre.length + (suf.length + 1) := by rw [h1]; simp
    rw [cnt_cons] at hz
    rw [f_pluvialref07_swallow.l1, if_pos (by simp; omega), at_mid h1 hi0, sb, ref_units hs (by omega), sb, wrap64 (by omega) (by omega)]
    by_cases hc : a < x.f0 * stp h.f1
    · rw [if_neg (by simp; omega), chkB (by simp; omega), sb]
      simp only []
      rw [ih (pre ++ [x]) z (o ++ [x]) (i + 1) (by simp [h1]) (by simp; omega) h0 (by omega) (by simp; omega)]
      simp [hc]
    · rw [if_pos (by simp; omega), wrapU (by omega) (by omega), sb]
      simp only []
      rw [ih (pre ++ [x]) (z + x.f1) o (i + 1) (by simp [h1]) (by simp; omega) (by omega) (by omega) (by simp; omega)]
      rw [show keepL h.f1 a (x :: suf) = keepL h.f1 a suf from List.filter_cons_of_neg (by simpa using hc), show dropL h.f1 a (x :: suf) = x :: dropL h.f1 a suf from List.filter_cons_of_pos (by simpa using hc), cnt_cons, Int.add_assoc]
noncomputable def rsw (h : THist) (a : Int) : THist := ⟨h.f0, h.f1, zAt h.f1 a h.f6 h.f7, h.f3 + cnt (dropL h.f1 (zAt h.f1 a h.f6 h.f7) h.f6) + cnt (dropL h.f1 (zAt h.f1 a h.f6 h.f7) h.f7), h.f4, h.f5, keepL h.f1 (zAt h.f1 a h.f6 h.f7) h.f6, keepL h.f1 (zAt h.f1 a h.f6 h.f7) h.f7⟩
theorem rsw_eq (h : THist) (a : Int) (hs : RightS h.f1) (hp : Cs h.f1 h.f6) (hn : Cs h.f1 h.f7) (h3 : 0 ≤ h.f3) (ht : cnt h.f6 + cnt h.f7 + h.f3 < 18446744073709551616) : f_pluvialref07_swallow.f h a = some (rsw h a) := by
  have l1 := hp.len
  have l2 := hn.len
  have c1 := cnt_nonneg hp.nn
  have c2 := cnt_nonneg hn.nn
  have d1 : cnt (keepL h.f1 (zAt h.f1 a h.f6 h.f7) h.f6) + cnt (dropL h.f1 (zAt h.f1 a h.f6 h.f7) h.f6) = cnt h.f6 := cnt_filter h.f6 _
  have e1 := cnt_nonneg (l := keepL h.f1 (zAt h.f1 a h.f6 h.f7) h.f6) (fun b hb => hp.nn b (List.mem_filter.1 hb).1)
  have e2 := cnt_nonneg (l := dropL h.f1 (zAt h.f1 a h.f6 h.f7) h.f6) (fun b hb => hp.nn b (List.mem_filter.1 hb).1)
  have hmax : ((if (decide ((if Strad h.f1 a h.f7 then cg h.f1 a else a) > (if Strad h.f1 a h.f6 then cg h.f1 a else a))) = true then (some (if Strad h.f1 a h.f7 then cg h.f1 a else a)) else (some (if Strad h.f1 a h.f6 then cg h.f1 a else a))) : Option Int) = some (zAt h.f1 a h.f6 h.f7) := by
    rw [← zAt_max]
    by_cases h : (if Strad h.f1 a h.f7 then cg h.f1 a else a) > (if Strad h.f1 a h.f6 then cg h.f1 a else a)
    · rw [if_pos (by simpa using h), if_pos h]
    · rw [if_neg (by simpa using h), if_neg h]
  unfold f_pluvialref07_swallow.f
  rw [within_eq h.f1 a h.f6 hs (by omega) hp.ins, within_eq h.f1 a h.f7 hs (by omega) hn.ins, sb, sb, hmax, sb, rsw_l0 h _ hs (by omega) hp.ins hp.nn h.f6 [] h.f3 [] 0 rfl rfl h3 (by omega) (Nat.le_refl _), sb]
  simp only [List.nil_append]
  rw [rsw_l1 h _ _ hs (by omega) hn.ins hn.nn h.f7 [] _ [] 0 rfl rfl (by omega) (by omega) (Nat.le_refl _), sb]
  simp only [List.nil_append]
  rfl
theorem strad_of {s a : Int} {l l' : List TBucket} (hp : ∀ b ∈ l, 0 < b.f1) (h : ∀ i, tot l i = tot l' i) (hs : Strad s a l) : Strad s a l' := by
  obtain ⟨b, hb, h1⟩ := hs
  by_cases hc : ∃ c ∈ l', c.f0 = b.f0
  · obtain ⟨c, hc, e⟩ := hc; exact ⟨c, hc, e ▸ h1⟩
  · have h2 := tot_mem (fun b hb => Int.le_of_lt (hp b hb)) hb
    rw [h, tot_zero (fun c hc2 e => hc ⟨c, hc2, e⟩)] at h2
    have := hp b hb; omega
theorem zAt_congr {s a : Int} {p n p' n' : List TBucket} (hp : ∀ b ∈ p, 0 < b.f1) (hn : ∀ b ∈ n, 0 < b.f1) (hp' : ∀ b ∈ p', 0 < b.f1) (hn' : ∀ b ∈ n', 0 < b.f1) (h1 : ∀ i, tot p i = tot p' i) (h2 : ∀ i, tot n i = tot n' i) : zAt s a p n = zAt s a p' n' := by
  unfold zAt
  have e1 : Strad s a p ↔ Strad s a p' := ⟨strad_of hp h1, strad_of hp' (fun i => (h1 i).symm)⟩
  have e2 : Strad s a n ↔ Strad s a n' := ⟨strad_of hn h2, strad_of hn' (fun i => (h2 i).symm)⟩
  by_cases h : Strad s a p ∨ Strad s a n
  · rw [if_pos h, if_pos (by rw [← e1, ← e2]; exact h)]
  · rw [if_neg h, if_neg (by rw [← e1, ← e2]; exact h)]
theorem swal_rsw {h g : THist} {p n : List TBucket} {a : Int} {r : THist} (w : Swal h p n a r) (hp : ∀ b ∈ p, 0 < b.f1) (hn : ∀ b ∈ n, 0 < b.f1) (c6 : Canon g.f6) (c7 : Canon g.f7) (t6 : ∀ i, tot g.f6 i = tot p i) (t7 : ∀ i, tot g.f7 i = tot n i)
    (e0 : g.f0 = h.f0) (e1 : g.f1 = h.f1) (e3 : g.f3 = h.f3) (e4 : g.f4 = cnt p + cnt n + h.f3) (e5 : g.f5 = h.f5) : rsw g a = r := by
  have hz : zAt g.f1 a g.f6 g.f7 = zAt h.f1 a p n := by rw [e1]; exact zAt_congr c6.pos c7.pos hp hn t6 t7
  have k6 : Canon (keepL h.f1 (zAt h.f1 a p n) g.f6) := ⟨c6.up.filter _, fun b hb => c6.pos b (List.mem_filter.1 hb).1⟩
  have k7 : Canon (keepL h.f1 (zAt h.f1 a p n) g.f7) := ⟨c7.up.filter _, fun b hb => c7.pos b (List.mem_filter.1 hb).1⟩
  have q6 : keepL h.f1 (zAt h.f1 a p n) g.f6 = r.f6 := canon_unique k6 w.valid.pos.canon (fun i => by rw [w.tpos, tot_filter g.f6 (above h.f1 (zAt h.f1 a p n)) i, t6])
  have q7 : keepL h.f1 (zAt h.f1 a p n) g.f7 = r.f7 := canon_unique k7 w.valid.neg.canon (fun i => by rw [w.tneg, tot_filter g.f7 (above h.f1 (zAt h.f1 a p n)) i, t7])
  have d6 : cnt (keepL h.f1 (zAt h.f1 a p n) g.f6) + cnt (dropL h.f1 (zAt h.f1 a p n) g.f6) = cnt g.f6 := cnt_filter g.f6 _
  have d7 : cnt (keepL h.f1 (zAt h.f1 a p n) g.f7) + cnt (dropL h.f1 (zAt h.f1 a p n) g.f7) = cnt g.f7 := cnt_filter g.f7 _
  have m6 := cnt_congr t6
  have m7 := cnt_congr t7
  have hc := w.valid.count
  have hcc := w.count
  rw [← q6, ← q7] at hc
  unfold rsw
  rw [hz, e1]
  exact hist_ext (e0.trans w.kind.symm) w.schema.symm w.zeroAt.symm (by simp only; omega) (by simp only; rw [e4, w.count]) (e5.trans w.sum.symm) q6 q7
theorem ref_Down (a : THist) (s : Int) (hv : Valid a) (hf : Fits a) : ∃ r e, f_meld_Down.f a s = some (r, e) ∧ f_pluvialref07_Down.f a s = some (r, e) := by
  by_cases h : RightS s ∧ s ≤ a.f1
  case neg =>
    refine ⟨h0, 20, Down_bad a s h, ?_⟩
    unfold f_pluvialref07_Down.f
    by_cases hs : RightS s
    · rw [ref_right, sb, if_neg (by simp [hs]), sb, if_pos (by simp; have : ¬ s ≤ a.f1 := fun q => h ⟨hs, q⟩; omega)]; rfl
    · rw [ref_right, sb, if_pos (by simp [hs]), sb, if_pos rfl]; rfl
  obtain ⟨hs, hle⟩ := h
  have l1 := hv.pos.len
  have l2 := hv.neg.len
  have h1 := hv.count
  have h2 := hv.total
  have p6 := cs_down hv.schema hs hle (side_cs hv.pos)
  have p7 := cs_down hv.schema hs hle (side_cs hv.neg)
  have n6 := cnt_nonneg hv.pos.canon.nn
  have n7 := cnt_nonneg hv.neg.canon.nn
  have hz := hf.zero.1
  obtain ⟨r, e, w⟩ := swallow_eq (⟨a.f0, s, a.f2, a.f3, a.f4, a.f5, a.f6, a.f7⟩ : THist) (downL a.f1 s a.f6) (downL a.f1 s a.f7) a.f2 hv.kind hs hv.zero hz hf.sum p6 p7
    (by rw [downL_len]; exact l1) (by rw [downL_len]; exact l2) (by rw [cnt_downL, cnt_downL]; exact h2)
  refine ⟨r, 0, ?_, ?_⟩
  · unfold f_meld_Down.f
    rw [right_T hs, sb, if_neg (by simp), sb, if_neg (by simp; omega), down_eq a.f6 a.f1 s hv.schema hs hle (by omega) (side_cs hv.pos).ins, down_eq a.f7 a.f1 s hv.schema hs hle (by omega) (side_cs hv.neg).ins, sb, sb, e]
    rfl
  · obtain ⟨o6, e6, c6, t6, m6⟩ := coarse_eq a.f6 a.f1 s hv.schema hs hle (side_cs hv.pos) (by omega)
    obtain ⟨o7, e7, c7, t7, m7⟩ := coarse_eq a.f7 a.f1 s hv.schema hs hle (side_cs hv.neg) (by omega)
    have cs6 : Cs s o6 := ⟨by omega, fun b hb => by
      by_cases hc : ∃ x ∈ downL a.f1 s a.f6, x.f0 = b.f0
      · obtain ⟨x, hx, e⟩ := hc; rw [← e]; exact p6.ins x hx
      · have h3 := t6 b.f0
        rw [c6.tot_of hb, tot_zero (fun x hx e => hc ⟨x, hx, e⟩)] at h3
        have := c6.pos b hb; omega, c6.pos⟩
    have cs7 : Cs s o7 := ⟨by omega, fun b hb => by
      by_cases hc : ∃ x ∈ downL a.f1 s a.f7, x.f0 = b.f0
      · obtain ⟨x, hx, e⟩ := hc; rw [← e]; exact p7.ins x hx
      · have h3 := t7 b.f0
        rw [c7.tot_of hb, tot_zero (fun x hx e => hc ⟨x, hx, e⟩)] at h3
        have := c7.pos b hb; omega, c7.pos⟩
    have q6 := cnt_congr t6
    have q7 := cnt_congr t7
    rw [cnt_downL] at q6 q7
    unfold f_pluvialref07_Down.f
    rw [ref_right, sb, if_neg (by simp [hs]), sb, if_neg (by simp; omega), e6, e7, sb, sb, rsw_eq (⟨a.f0, s, a.f2, a.f3, a.f4, a.f5, o6, o7⟩ : THist) a.f2 hs cs6 cs7 hz (by simp only; omega), sb]
    rw [swal_rsw (g := (⟨a.f0, s, a.f2, a.f3, a.f4, a.f5, o6, o7⟩ : THist)) w p6.pos p7.pos c6 c7 t6 t7 rfl rfl rfl (by simp only [cnt_downL]; exact h1) rfl]
theorem ref_Widen (a : THist) (z : Int) (hv : Valid a) (hf : Fits a) : ∃ r e, f_meld_Widen.f a z = some (r, e) ∧ f_pluvialref07_Widen.f a z = some (r, e) := by
  by_cases h1 : z = a.f2
  · subst h1
    refine ⟨a, 0, Widen_same a hv, ?_⟩
    unfold f_pluvialref07_Widen.f
    rw [if_neg (by simp), if_neg (by simp), sb, if_neg (by simp), if_pos (by simp)]
  by_cases h2 : a.f2 < z ∧ -262144 < z ∧ z ≤ 262144
  · obtain ⟨r, e, w⟩ := Widen_swal a z hv hf h2.2 h2.1
    refine ⟨r, 0, e, ?_⟩
    have hc := hv.count
    unfold f_pluvialref07_Widen.f
    rw [if_neg (by simp; omega), if_pos (by simpa using h1), if_neg (by simp; omega), sb, if_neg (by simp; omega), if_neg (by simpa using h1), rsw_eq a z hv.schema (side_cs hv.pos) (side_cs hv.neg) hf.zero.1 hv.total, sb,
      swal_rsw (g := a) w (side_cs hv.pos).pos (side_cs hv.neg).pos hv.pos.canon hv.neg.canon (fun _ => rfl) (fun _ => rfl) rfl rfl rfl hc rfl]
  · refine ⟨h0, 31, Widen_bad a z (by by_cases h3 : z < a.f2; exact .inl h3; exact .inr ⟨h1, fun q => h2 ⟨by omega, q⟩⟩), ?_⟩
    unfold f_pluvialref07_Widen.f
    by_cases h3 : z < a.f2
    · rw [if_pos (by simpa using h3), sb, if_pos rfl]; rfl
    · rw [if_neg (by simpa using h3), if_pos (by simpa using h1)]
      have : ((if (decide (z ≤ (-262144))) = true then (some true) else (some (decide (z > (262144 : Int))))) : Option (Bool)) = some true := by
        by_cases h4 : z ≤ -262144
        · rw [if_pos (by simpa using h4)]
        · rw [if_neg (by simpa using h4)]; simp; omega
      rw [this, sb, if_pos rfl]; rfl
theorem rsame_self (l : List TBucket) (hl : l.length < 1000000000) : f_pluvialref05_same.f l l = some true := by
  unfold f_pluvialref05_same.f
  rw [if_neg (by simp)]
  have : ∀ (suf pre : List TBucket) (i : Int), l = pre ++ suf → i = (pre.length : Int) → f_pluvialref05_same.l0 l l i = some (.inr ()) := by
    intro suf
    induction suf with
    | nil => intro pre i h1 hi; subst h1; rw [f_pluvialref05_same.l0, if_neg (by simp [hi])]
    | cons x suf ih =>
      intro pre i h1 hi
      have hlen : (l.length : Int) = pre.length + (suf.length + 1) := by rw [h1]; simp
      rw [f_pluvialref05_same.l0, if_pos (by simp; omega), at_mid h1 hi, sb, sb, if_neg (by simp), wrap64 (by omega) (by omega)]
      exact ih (pre ++ [x]) (i + 1) (by simp [h1]) (by simp; omega)
  rw [this l [] 0 rfl rfl]; rfl
theorem rSame_self (h : THist) (hp : h.f6.length < 1000000000) (hn : h.f7.length < 1000000000) : f_pluvialref05_Same.f h h = some true := by
  unfold f_pluvialref05_Same.f
  rw [rsame_self _ hp, rsame_self _ hn]
  simp [sb]
end Go.Proofs.Yticdbkmekkbiiaa.PvGB
set_option linter.unusedVariables false
set_option linter.unusedSimpArgs false
namespace Go.Proofs.Yticdbkmekkbiiaa.PvGB
open Go Go.Pv Go.Pv.GS
open Classical
theorem Widen_valid (a r : THist) (z : Int) (hv : Valid a) (hf : Fits a) (h : f_meld_Widen.f a z = some (r, 0)) : Valid r ∧ Fits r := by
  by_cases h1 : z = a.f2
  · subst h1; rw [Widen_same a hv] at h; simp at h; subst h; exact ⟨hv, hf⟩
  by_cases h2 : a.f2 < z ∧ -262144 < z ∧ z ≤ 262144
  · obtain ⟨r', e, w⟩ := Widen_swal a z hv hf h2.2 h2.1
    rw [e] at h; simp at h; subst h; exact ⟨w.valid, w.fits⟩
  · rw [Widen_bad a z (by by_cases h3 : z < a.f2; exact .inl h3; exact .inr ⟨h1, fun q => h2 ⟨by omega, q⟩⟩)] at h
    simp at h
theorem Widen_err (a r : THist) (z e : Int) (hv : Valid a) (hf : Fits a) (h : f_meld_Widen.f a z = some (r, e)) (he : e ≠ 0) : r = h0 := by
  by_cases h1 : z = a.f2
  · subst h1; rw [Widen_same a hv] at h; simp at h; exact absurd h.2.symm he
  by_cases h2 : a.f2 < z ∧ -262144 < z ∧ z ≤ 262144
  · obtain ⟨r', e', w⟩ := Widen_swal a z hv hf h2.2 h2.1
    rw [e'] at h; simp at h; exact absurd h.2.symm he
  · rw [Widen_bad a z (by by_cases h3 : z < a.f2; exact .inl h3; exact .inr ⟨h1, fun q => h2 ⟨by omega, q⟩⟩)] at h
    simp at h; exact h.1.symm
theorem Widen_code (a r : THist) (z e : Int) (hv : Valid a) (hf : Fits a) (h : f_meld_Widen.f a z = some (r, e)) : e = 0 ∨ e = 31 := by
  by_cases h1 : z = a.f2
  · subst h1; rw [Widen_same a hv] at h; simp at h; exact .inl h.2.symm
  by_cases h2 : a.f2 < z ∧ -262144 < z ∧ z ≤ 262144
  · obtain ⟨r', e', w⟩ := Widen_swal a z hv hf h2.2 h2.1
    rw [e'] at h; simp at h; exact .inl h.2.symm
  · rw [Widen_bad a z (by by_cases h3 : z < a.f2; exact .inl h3; exact .inr ⟨h1, fun q => h2 ⟨by omega, q⟩⟩)] at h
    simp at h; exact .inr h.2.symm
theorem ref_alike_loop (p q p' q' : THist) (hp : Valid p) (fp : Fits p) (hq : Valid q) (fq : Fits q)
    (h : f_meld_Alike.l0 (p.f0, p.f1, p.f2, p.f3, p.f4, p.f5, p.f6, p.f7, q.f0, q.f1, q.f2, q.f3, q.f4, q.f5, q.f6, q.f7) = some (.inr (p'.f0, p'.f1, p'.f2, p'.f3, p'.f4, p'.f5, p'.f6, p'.f7, q'.f0, q'.f1, q'.f2, q'.f3, q'.f4, q'.f5, q'.f6, q'.f7))) :
    f_pluvialref07_Alike.l0 (p.f0, p.f1, p.f2, p.f3, p.f4, p.f5, p.f6, p.f7, q.f0, q.f1, q.f2, q.f3, q.f4, q.f5, q.f6, q.f7) = some (p'.f0, p'.f1, p'.f2, p'.f3, p'.f4, p'.f5, p'.f6, p'.f7, q'.f0, q'.f1, q'.f2, q'.f3, q'.f4, q'.f5, q'.f6, q'.f7) := by
  refine f_meld_Alike.l0.partial_correctness (motive := fun v o => ∀ p q : THist, v = (p.f0, p.f1, p.f2, p.f3, p.f4, p.f5, p.f6, p.f7, q.f0, q.f1, q.f2, q.f3, q.f4, q.f5, q.f6, q.f7) → Valid p → Fits p → Valid q → Fits q →
    o = .inr (p'.f0, p'.f1, p'.f2, p'.f3, p'.f4, p'.f5, p'.f6, p'.f7, q'.f0, q'.f1, q'.f2, q'.f3, q'.f4, q'.f5, q'.f6, q'.f7) → f_pluvialref07_Alike.l0 v = some (p'.f0, p'.f1, p'.f2, p'.f3, p'.f4, p'.f5, p'.f6, p'.f7, q'.f0, q'.f1, q'.f2, q'.f3, q'.f4, q'.f5, q'.f6, q'.f7)) ?_ _ _ h p q rfl hp fp hq fq rfl
  clear h hp fp hq fq p q
  intro self ih v o H p q hv hp fp hq fq ho
  subst hv; subst ho
  dsimp only at H
  rw [f_pluvialref07_Alike.l0]
  dsimp only
  by_cases hz : p.f2 = q.f2
  · rw [if_neg (by simpa using hz)] at H ⊢
    simpa using H
  · rw [if_pos (by simpa using hz)] at H ⊢
    obtain ⟨⟨r1, e1⟩, w1, H⟩ := bind_of H
    obtain ⟨⟨r2, e2⟩, w2, H⟩ := bind_of H
    dsimp only at H
    have he : e1 = 0 ∧ e2 = 0 := by
      rcases Widen_code p r1 _ e1 hp fp w1 with h1 | h1 <;> rcases Widen_code q r2 _ e2 hq fq w2 with h2 | h2 <;> subst h1 <;> subst h2 <;> simp at H ⊢
    obtain ⟨rfl, rfl⟩ := he
    rw [if_neg (by simp)] at H
    have v1 := Widen_valid p r1 _ hp fp w1
    have v2 := Widen_valid q r2 _ hq fq w2
    have key := ih _ _ H r1 r2 rfl v1.1 v1.2 v2.1 v2.2 rfl
    by_cases hlt : p.f2 < q.f2
    · rw [if_pos (show q.f2 > p.f2 from hlt)] at w1 w2
      rw [Widen_same q hq] at w2
      simp at w2; subst w2
      obtain ⟨r, e, g1, g2⟩ := ref_Widen p q.f2 hp fp
      rw [w1] at g1; simp at g1
      obtain ⟨rfl, rfl⟩ := g1
      rw [if_pos (by simpa using hlt), g2, sb, sb]
      exact key
    · rw [if_neg (show ¬ q.f2 > p.f2 from hlt)] at w1 w2
      rw [Widen_same p hp] at w1
      simp at w1; subst w1
      obtain ⟨r, e, g1, g2⟩ := ref_Widen q p.f2 hq fq
      rw [w2] at g1; simp at g1
      obtain ⟨rfl, rfl⟩ := g1
      rw [if_neg (by simpa using hlt), g2, sb, sb]
      exact key
theorem ref_Alike (a b : THist) (ha : Valid a) (fa : Fits a) (hb : Valid b) (fb : Fits b) : ∃ p q, f_meld_Alike.f a b = some (p, q, 0) ∧ f_pluvialref07_Alike.f a b = some (p, q) ∧ Valid p ∧ Valid q ∧ p.f2 = q.f2 ∧ p.f1 = q.f1 := by
  have hs : RightS (if b.f1 < a.f1 then b.f1 else a.f1) := by split; exact hb.schema; exact ha.schema
  obtain ⟨p0, e1, c1⟩ := Down_eq a _ ha fa hs (by split <;> omega)
  obtain ⟨q0, e2, c2⟩ := Down_eq b _ hb fb hs (by split <;> omega)
  have c1' := c1
  have c2' := c2
  rw [← c1.zeroAt] at c1'
  rw [← c2.zeroAt] at c2'
  obtain ⟨p, q, z, el, cp, cq, hz⟩ := alike_loop a b p0 q0 _ _ _ c1' c2'
  refine ⟨p, q, ?_, ?_, cp.valid, cq.valid, cp.zeroAt.trans cq.zeroAt.symm, cp.schema.trans cq.schema.symm⟩
  · unfold f_meld_Alike.f
    rw [e1, sb, e2, sb, if_neg (by simp)]
    (try simp only [])
    rw [el]
    rfl
  · have rl := ref_alike_loop p0 q0 p q c1.valid c1.fits c2.valid c2.fits el
    obtain ⟨r1, g1, d1, d2⟩ := ref_Down a (if b.f1 < a.f1 then b.f1 else a.f1) ha fa
    obtain ⟨r2, g2, d3, d4⟩ := ref_Down b (if b.f1 < a.f1 then b.f1 else a.f1) hb fb
    rw [e1] at d1; simp at d1; obtain ⟨rfl, rfl⟩ := d1
    rw [e2] at d3; simp at d3; obtain ⟨rfl, rfl⟩ := d3
    unfold f_pluvialref07_Alike.f
    by_cases hlt : a.f1 < b.f1
    · rw [if_neg (show ¬ b.f1 < a.f1 by omega)] at d2 d4
      rw [if_pos (by simpa using hlt), d4, sb, d2, sb, sb]
      dsimp only
      rw [rl]; rfl
    · by_cases hlt2 : b.f1 < a.f1
      · rw [if_pos hlt2] at d2 d4
        rw [if_neg (by simpa using hlt), d2, sb, d4, sb, sb]
        dsimp only
        rw [rl]; rfl
      · have heq : a.f1 = b.f1 := by omega
        rw [if_neg hlt2] at d2 d4
        rw [if_neg (by simpa using hlt), ← heq, d2, sb, d4, sb, sb]
        dsimp only
        rw [rl]; rfl
end Go.Proofs.Yticdbkmekkbiiaa.PvGB
set_option linter.unusedVariables false
set_option linter.unusedSimpArgs false
namespace Go.Proofs.Yticdbkmekkbiiaa.PvGB
open Go Go.Pv Go.Pv.GS
open Classical
theorem fr_small {r : THist} (h : Valid r) : r.f6.length < 1000000000 ∧ r.f7.length < 1000000000 := by
  have := h.pos.len; have := h.neg.len; omega
theorem downs_true (a b : THist) (s z : Int) (fa : RHist a) (fb : RHist b) : f_pluviallaw07_MeldDowns.f a b s z = some true := by
  unfold f_pluviallaw07_MeldDowns.f
  rw [right7 [a, b] (by simp) (by simpa using ⟨fa, fb⟩), awake07, sb]
  by_cases hr : Right7 a ∧ Right7 b
  case neg =>
    have : ¬ Right7 a ∨ ¬ Right7 b := by
      by_cases h : Right7 a
      · exact .inr (fun q => hr ⟨h, q⟩)
      · exact .inl h
    rw [if_pos (by simpa using this), sb]
  rw [if_neg (by simpa using hr)]
  have va := hr.1.valid
  have vb := hr.2.valid
  have ffa := fits_of fa
  have ffb := fits_of fb
  obtain ⟨r1, e1, d1, d2⟩ := ref_Down a s va ffa
  have l1 : r1.f6.length < 1000000000 ∧ r1.f7.length < 1000000000 := by
    by_cases h : RightS s ∧ s ≤ a.f1
    · obtain ⟨r, e, c⟩ := Down_eq a s va ffa h.1 h.2
      rw [e] at d1; simp at d1; rw [← d1.1]; exact fr_small c.valid
    · rw [Down_bad a s h] at d1; simp at d1; rw [← d1.1]; simp [h0]
  obtain ⟨r2, e2, w1, w2⟩ := ref_Widen a z va ffa
  have l2 : r2.f6.length < 1000000000 ∧ r2.f7.length < 1000000000 := by
    by_cases h : e2 = 0
    · exact fr_small (Widen_valid a r2 z va ffa (h ▸ w1)).1
    · rw [Widen_err a r2 z e2 va ffa w1 h]; simp [h0]
  obtain ⟨p, q, h1, h2, h3, h4, h5, h6⟩ := ref_Alike a b va ffa vb ffb
  rw [d1, d2, sb, sb, if_neg (by simp), rSame_self r1 l1.1 l1.2, sb, sb, if_neg (by simp), w1, w2, sb, sb, if_neg (by simp), rSame_self r2 l2.1 l2.2, sb, sb, if_neg (by simp), h1, h2, sb, sb, sb, if_pos rfl, if_pos (by simp),
    rSame_self p (fr_small h3).1 (fr_small h3).2, sb, if_pos rfl, rSame_self q (fr_small h4).1 (fr_small h4).2, sb, if_pos rfl, if_pos (by simpa using h5), sb]
  simp [h6]
theorem meldDowns_R (a b : THist) (s z : Int) (ha : RHist a) (hb : RHist b) (_ : I64 s) (_ : I64 z) : f_pluviallaw07_MeldDowns.f a b s z = some true := downs_true a b s z ha hb
end Go.Proofs.Yticdbkmekkbiiaa.PvGB
