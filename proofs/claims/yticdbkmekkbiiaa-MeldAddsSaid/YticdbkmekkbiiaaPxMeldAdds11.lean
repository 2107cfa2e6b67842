import Derived.Test.YticdbkmekkbiiaaPxMeldAdds10
set_option linter.unusedVariables false
set_option linter.unusedSimpArgs false
namespace Go.Proofs.Yticdbkmekkbiiaa.PvGB
open Go Go.Pv Go.Pv.GS
open Classical
theorem together_l0 (l : List TBucket) (k : Int) (hl : l.length < 1000000) : ∀ (suf pre : List TBucket) (x : List Int) (i : Int), l = pre ++ suf → i = (pre.length : Int) → x.length ≤ pre.length →
    f_pluvialref05_Together.l0 l k x i = some (x ++ (suf.filter (fun b => decide (b.f0 = k))).map (·.f1)) := by
  intro suf
  induction suf with
  | nil => intro pre x i h1 hi _; subst h1; rw [f_pluvialref05_Together.l0, if_neg (by simp [hi])]; simp
  | cons b suf ih =>
    intro pre x i h1 hi hx
    have hlen : (l.length : Int) = pre.length + (suf.length + 1) := by rw [h1]; simp
    rw [f_pluvialref05_Together.l0, if_pos (by simp; omega), at_mid h1 hi, sb, wrap64 (by omega) (by omega)]
    by_cases h : b.f0 = k
    · rw [if_pos (by simpa using h), chkB (by simp; omega), sb, ih (pre ++ [b]) _ (i + 1) (by simp [h1]) (by simp; omega) (by simp; omega)]
      simp [h]
    · rw [if_neg (by simpa using h), sb, ih (pre ++ [b]) _ (i + 1) (by simp [h1]) (by simp; omega) (by simp; omega)]
      simp [h]
theorem tot_sum (l : List TBucket) (k : Int) : ((l.filter (fun b => decide (b.f0 = k))).map (·.f1)).sum = tot l k := by
  induction l with
  | nil => rfl
  | cons b l ih =>
    by_cases h : b.f0 = k
    · rw [List.filter_cons_of_pos (by simpa using h), List.map_cons, List.sum_cons, ih, tot, if_pos h]
    · rw [List.filter_cons_of_neg (by simpa using h), ih, tot, if_neg h]; omega
theorem together_eq (l : List TBucket) (k : Int) (hl : l.length < 1000000) (hn : Nn l) (ht : cnt l < 18446744073709551616) : f_pluvialref05_Together.f l k = some (tot l k, 0) := by
  unfold f_pluvialref05_Together.f
  have h1 := tot_le_cnt hn k
  rw [together_l0 l k hl l [] [] 0 rfl rfl (Nat.le_refl _), sb, List.nil_append, ref_add _ (by
    rw [List.length_map]
    have := List.length_filter_le (fun b : TBucket => decide (b.f0 = k)) l; omega) (by
    intro x hx
    obtain ⟨b, hb, rfl⟩ := List.mem_map.1 hx
    have hb := (List.mem_filter.1 hb).1
    exact ⟨hn b hb, by have := le_cnt hn hb; omega⟩), sb, tot_sum, if_pos (by omega)]
def Cand (hv : Bool) (last : Int) (b : TBucket) : Prop := hv = false ∨ last < b.f0
structure Least (hv : Bool) (last : Int) (l : List TBucket) (fd : Bool) (nx : Int) : Prop where
  none : fd = false → ∀ b ∈ l, ¬ Cand hv last b
  some : fd = true → (∃ b ∈ l, Cand hv last b ∧ b.f0 = nx) ∧ ∀ b ∈ l, Cand hv last b → nx ≤ b.f0
theorem tidy_l1 (l o : List TBucket) (hv : Bool) (last : Int) (hl : l.length < 1000000) : ∀ (suf pre : List TBucket) (fd : Bool) (nx i : Int), l = pre ++ suf → i = (pre.length : Int) → Least hv last pre fd nx →
    ∃ fd' nx', f_pluvialref05_Tidy.l1 l o hv last fd nx i = some (fd', nx') ∧ Least hv last l fd' nx' := by
  intro suf
  induction suf with
  | nil => intro pre fd nx i h1 hi hL; rw [List.append_nil] at h1; subst h1; rw [f_pluvialref05_Tidy.l1, if_neg (by simp [hi])]; exact ⟨_, _, rfl, hL⟩
  | cons b suf ih =>
    intro pre fd nx i h1 hi hL
    have hlen : (l.length : Int) = pre.length + (suf.length + 1) := by rw [h1]; simp
    have e1 : l = (pre ++ [b]) ++ suf := by simp [h1]
    have e2 : i + 1 = ((pre ++ [b]).length : Int) := by simp; omega
    have hc : ((if (!hv) = true then (if (!fd) = true then (some true) else ((at? l i) >>= fun b1857 => some (decide (b1857.f0 < nx)))) else ((at? l i) >>= fun b1860 => if (decide (b1860.f0 > last)) = true then (if (!fd) = true then (some true) else (some (decide (b1860.f0 < nx)))) else (some false))) : Option (Bool)) = some (decide (Cand hv last b ∧ (fd = false ∨ b.f0 < nx))) := by
      rw [at_mid h1 hi, sb, sb]
      unfold Cand
      cases hv <;> cases fd <;> simp
      · by_cases h : last < b.f0 <;> simp [h]
      · by_cases h : last < b.f0 <;> simp [h]
    rw [f_pluvialref05_Tidy.l1, if_pos (by simp; omega), hc, sb, wrap64 (by omega) (by omega)]
    by_cases h : Cand hv last b ∧ (fd = false ∨ b.f0 < nx)
    · rw [if_pos (by simpa using h), at_mid h1 hi, sb, sb]
      simp only []
      refine ih (pre ++ [b]) true b.f0 (i + 1) e1 e2 ⟨fun h => (by cases h), fun _ => ⟨⟨b, by simp, h.1, rfl⟩, fun c hc hcc => ?_⟩⟩
      rcases List.mem_append.1 hc with hc | hc
      · rcases h.2 with h2 | h2
        · exact absurd hcc (hL.none h2 c hc)
        · cases hfd : fd with
          | false => exact absurd hcc (hL.none hfd c hc)
          | true => have := (hL.some hfd).2 c hc hcc; omega
      · simp at hc; subst hc; exact Int.le_refl _
    · rw [if_neg (by simpa using h), sb]
      simp only []
      refine ih (pre ++ [b]) fd nx (i + 1) e1 e2 ⟨fun hf c hc hcc => ?_, fun hf => ⟨?_, fun c hc hcc => ?_⟩⟩
      · rcases List.mem_append.1 hc with hc | hc
        · exact hL.none hf c hc hcc
        · simp at hc; subst hc; exact h ⟨hcc, .inl hf⟩
      · obtain ⟨c, hc, q⟩ := (hL.some hf).1; exact ⟨c, by simp [hc], q⟩
      · rcases List.mem_append.1 hc with hc | hc
        · exact (hL.some hf).2 c hc hcc
        · simp at hc; subst hc
          by_cases h3 : nx ≤ c.f0
          · exact h3
          · exact absurd ⟨hcc, .inr (by omega)⟩ h
theorem tidy_l0_ref (l : List TBucket) (hl : l.length < 1000000) (hp : ∀ b ∈ l, 0 < b.f1) (ht : cnt l < 18446744073709551616) : ∀ (n : Nat) (o : List TBucket) (hv : Bool) (last : Int), (l.filter (fun b => decide (Cand hv last b))).length ≤ n → Canon o → (∀ b ∈ o, ¬ Cand hv last b) → (∀ i, tot o i = if hv = true ∧ i ≤ last then tot l i else 0) → o.length + n ≤ l.length →
    ∃ o', f_pluvialref05_Tidy.l0 l o hv last = some (o', 0) ∧ Canon o' ∧ (∀ i, tot o' i = tot l i) ∧ o'.length ≤ l.length := by
  have hn : Nn l := fun b hb => Int.le_of_lt (hp b hb)
  intro n
  induction n with
  | zero =>
    intro o hv last hm hc ho hto hln
    obtain ⟨fd, nx, e, hL⟩ := tidy_l1 l o hv last hl l [] false 0 0 rfl rfl ⟨by simp, by simp⟩
    have hfd : fd = false := by
      cases hfd : fd with
      | false => rfl
      | true =>
        obtain ⟨b, hb, hbc, _⟩ := (hL.some hfd).1
        have : b ∈ l.filter (fun b => decide (Cand hv last b)) := List.mem_filter.2 ⟨hb, by simpa using hbc⟩
        have := List.length_pos_of_mem this; omega
    rw [f_pluvialref05_Tidy.l0, e, sb]
    simp only [hfd]
    rw [if_pos (by rfl)]
    refine ⟨o, rfl, hc, fun i => ?_, by omega⟩
    rw [hto]
    by_cases h : hv = true ∧ i ≤ last
    · rw [if_pos h]
    · rw [if_neg h, tot_zero]
      rintro b hb rfl
      apply hL.none hfd b hb
      unfold Cand
      cases hv with
      | false => exact .inl rfl
      | true => right; by_cases h2 : last < b.f0; exact h2; exact absurd ⟨rfl, by omega⟩ h
  | succ n ih =>
    intro o hv last hm hc ho hto hln
    obtain ⟨fd, nx, e, hL⟩ := tidy_l1 l o hv last hl l [] false 0 0 rfl rfl ⟨by simp, by simp⟩
    cases hfd : fd with
    | false =>
      rw [f_pluvialref05_Tidy.l0, e, sb]
      simp only [hfd]
      rw [if_pos (by rfl)]
      refine ⟨o, rfl, hc, fun i => ?_, by omega⟩
      rw [hto]
      by_cases h : hv = true ∧ i ≤ last
      · rw [if_pos h]
      · rw [if_neg h, tot_zero]
        rintro b hb rfl
        apply hL.none hfd b hb
        unfold Cand
        cases hv with
        | false => exact .inl rfl
        | true => right; by_cases h2 : last < b.f0; exact h2; exact absurd ⟨rfl, by omega⟩ h
    | true =>
      obtain ⟨⟨b, hb, hbc, hbn⟩, hmin⟩ := hL.some hfd
      have hpos : 0 < tot l nx := by have := tot_mem hn hb; have := hp b hb; rw [hbn] at *; omega
      rw [f_pluvialref05_Tidy.l0, e, sb]
      simp only [hfd]
      rw [if_neg (by simp), together_eq l nx hl hn ht, sb, if_neg (by simp), if_pos (by simpa using hpos), chkB (by simp; omega), sb]
      have hlt : ∀ c ∈ o, c.f0 < nx := fun c hc2 => by
        have := ho c hc2
        unfold Cand at this hbc
        rcases hbc with h1 | h1
        · exact absurd (.inl h1) this
        · have : ¬ last < c.f0 := fun h => this (.inr h)
          omega
      refine ih (o ++ [⟨nx, tot l nx⟩]) true nx ?_ ?_ ?_ ?_ (by simp; omega)
      · 
        have hsub : (l.filter (fun b => decide (Cand true nx b))) = (l.filter (fun b => decide (Cand hv last b))).filter (fun b => decide (nx < b.f0)) := by
          rw [List.filter_filter]
          apply List.filter_congr
          intro c hc2
          unfold Cand
          by_cases h1 : nx < c.f0
          · have : hv = false ∨ last < c.f0 := by
              unfold Cand at hbc
              rcases hbc with h2 | h2
              · exact .inl h2
              · exact .inr (by omega)
            simp [h1, this]
          · simp [h1]
        rw [hsub]
        have hmem : b ∈ l.filter (fun b => decide (Cand hv last b)) := List.mem_filter.2 ⟨hb, by simpa using hbc⟩
        have : ((l.filter (fun b => decide (Cand hv last b))).filter (fun b => decide (nx < b.f0))).length < (l.filter (fun b => decide (Cand hv last b))).length := by
          rw [List.length_filter_lt_length_iff_exists]
          exact ⟨b, hmem, by simp; omega⟩
        omega
      · exact ⟨List.pairwise_append.2 ⟨hc.up, List.pairwise_singleton _ _, fun c hc2 d hd => by simp at hd; subst hd; exact hlt c hc2⟩, fun c hc2 => by
          rcases List.mem_append.1 hc2 with h | h
          · exact hc.pos c h
          · simp at h; subst h; exact hpos⟩
      · intro c hc2 hcc
        unfold Cand at hcc
        rcases List.mem_append.1 hc2 with h | h
        · have := hlt c h; simp at hcc; omega
        · simp at h; subst h; simp at hcc
      · intro i
        rw [tot_append, tot_one, hto]
        simp only [true_and]
        by_cases h1 : i = nx
        · subst h1
          have : ¬ (hv = true ∧ i ≤ last) := by
            rintro ⟨h2, h3⟩
            unfold Cand at hbc
            rcases hbc with h | h
            · rw [h2] at h; cases h
            · omega
          rw [if_neg this, if_pos rfl, if_pos (Int.le_refl _)]; omega
        · rw [if_neg (show ¬ nx = i from fun h => h1 h.symm)]
          by_cases h2 : i ≤ nx
          · rw [if_pos h2]
            by_cases h3 : hv = true ∧ i ≤ last
            · rw [if_pos h3]; omega
            · rw [if_neg h3, tot_zero]
              · rfl
              · rintro c hc2 rfl
                have : Cand hv last c := by
                  unfold Cand
                  cases hv with
                  | false => exact .inl rfl
                  | true => right; by_cases h4 : last < c.f0; exact h4; exact absurd ⟨rfl, by omega⟩ h3
                have := hmin c hc2 this; omega
          · rw [if_neg h2, if_neg]
            · rfl
            · rintro ⟨h3, h4⟩
              unfold Cand at hbc
              rcases hbc with h | h
              · rw [h3] at h; cases h
              · omega
theorem tidy_ref (l : List TBucket) (hl : l.length < 1000000) (hp : ∀ b ∈ l, 0 < b.f1) (ht : cnt l < 18446744073709551616) :
    ∃ o, f_pluvialref05_Tidy.f l = some (o, 0) ∧ Canon o ∧ (∀ i, tot o i = tot l i) ∧ o.length ≤ l.length := by
  unfold f_pluvialref05_Tidy.f
  obtain ⟨o, e, h⟩ := tidy_l0_ref l hl hp ht _ [] false 0 (List.length_filter_le _ _) ⟨List.Pairwise.nil, by simp⟩ (by simp) (by simp [tot]) (by simp)
  rw [e]; exact ⟨o, rfl, h⟩
theorem ref_of {s u k : Int} (hs : RightS s) (hu : -262144 < u ∧ u ≤ 262144) (h1 : (k - 1) * stp s < u) (h2 : u ≤ k * stp s) : f_pluvialref04_Of.f s u = some (k, true) := by
  have hp := stp_pos s
  have hle := stp_le hs
  have hk : -262144 ≤ k ∧ k ≤ 262145 := by
    constructor
    · by_cases h : k < -262144
      · have := Int.mul_le_mul_of_nonneg_right (show k ≤ -262145 by omega) (Int.le_of_lt hp)
        have := Int.mul_le_mul_of_nonneg_left (show 1 ≤ stp s by omega) (show (0 : Int) ≤ 262145 by omega)
        omega
      · omega
    · by_cases h : 262145 < k
      · have := Int.mul_le_mul_of_nonneg_right (show 262145 ≤ k - 1 by omega) (Int.le_of_lt hp)
        have := Int.mul_le_mul_of_nonneg_left (show 1 ≤ stp s by omega) (show (0 : Int) ≤ 262145 by omega)
        omega
      · omega
  have htd : Int.tdiv u (stp s) = k ∨ Int.tdiv u (stp s) = k - 1 := by
    by_cases h0 : 0 ≤ u
    · rw [Int.tdiv_eq_ediv_of_nonneg h0]
      have e1 := Int.ediv_mul_le u (show stp s ≠ 0 by omega)
      have e2 := Int.lt_ediv_add_one_mul_self u hp
      generalize u / stp s = q at *
      have a1 := Int.lt_of_mul_lt_mul_right (show (k - 1) * stp s < (q + 1) * stp s by omega) (Int.le_of_lt hp)
      have a2 := Int.le_of_mul_le_mul_right (show q * stp s ≤ k * stp s by omega) hp
      omega
    · have e0 : Int.tdiv u (stp s) = -((-u) / stp s) := by
        rw [← Int.tdiv_eq_ediv_of_nonneg (show 0 ≤ -u by omega), Int.neg_tdiv]; omega
      rw [e0]
      have e1 := Int.ediv_mul_le (-u) (show stp s ≠ 0 by omega)
      have e2 := Int.lt_ediv_add_one_mul_self (-u) hp
      generalize (-u) / stp s = q at *
      rw [Int.add_mul] at e2
      rw [Int.sub_mul] at h1
      have a1 := Int.le_of_mul_le_mul_right (show q * stp s ≤ (-(k - 1)) * stp s by rw [Int.neg_mul, Int.sub_mul]; omega) hp
      have a2 := Int.lt_of_mul_lt_mul_right (show (-k) * stp s < (q + 1) * stp s by rw [Int.neg_mul, Int.add_mul]; omega) (Int.le_of_lt hp)
      by_cases hq : q = -k
      · omega
      · have : q = 1 - k := by omega
        subst this
        rw [Int.sub_mul] at e1; omega
  have hU : ∀ j : Int, j = k ∨ j = k - 1 → f_pluvialref04_Units.f s j = some (j * stp s) := fun j hj => ref_units hs (by omega)
  have hl1 : f_pluvialref04_Of.l1 s u k = some k := by
    rw [f_pluvialref04_Of.l1, wrap64 (by omega) (by omega), hU _ (.inr rfl), sb, if_neg (by simp; omega)]
  have hl0k : f_pluvialref04_Of.l0 s u k = some k := by
    rw [f_pluvialref04_Of.l0, hU _ (.inl rfl), sb, if_neg (by simp; omega)]
  have hl0 : f_pluvialref04_Of.l0 s u (Int.tdiv u (stp s)) = some k := by
    rcases htd with h | h
    · rw [h, hl0k]
    · rw [h, f_pluvialref04_Of.l0, hU _ (.inr rfl), sb, if_pos (by simp; omega), wrap64 (by omega) (by omega), show k - 1 + 1 = k by omega, hl0k]
  unfold f_pluvialref04_Of.f
  rw [ref_right, sb, if_neg (by simp [hs]), if_neg (by simp; omega), sb, if_neg (by simp; omega), ref_step hs, sb, chkB (by omega), wrap64 (by rcases htd with h | h <;> omega) (by rcases htd with h | h <;> omega), hl0, sb, hl1, sb]
theorem ref_to {f t i : Int} (hf : RightS f) (ht : RightS t) (h : t ≤ f) (hi : InS f i) : f_pluvialref04_To.f f t i = some (upI f t i, 0) := by
  have hsm := inS_small hi
  obtain ⟨h3, h4⟩ := upI_spec f t i
  have hst := stp_rat h hf.2
  have hp := stp_pos f
  unfold f_pluvialref04_To.f
  rw [ref_right, sb, if_neg (by simp [hf]), ref_right, sb, if_neg (by simp [ht]), sb, if_neg (by simp; omega), ref_in hf (inS_i64 hi), sb, if_neg (by simp [hi]), ref_units hf (by omega), sb,
    ref_of ht hi (k := upI f t i) (by
      rw [hst, Int.mul_comm (stp f), ← Int.mul_assoc]
      exact Int.mul_lt_mul_of_pos_right h3 hp) (by
      rw [hst, Int.mul_comm (stp f), ← Int.mul_assoc]
      exact Int.mul_le_mul_of_nonneg_right h4 (Int.le_of_lt hp)), sb]
theorem coarse_l0 (l : List TBucket) (f t : Int) (hf : RightS f) (ht : RightS t) (h : t ≤ f) (hl : l.length < 1000000) (hi : ∀ b ∈ l, InS f b.f0) : ∀ (suf pre o : List TBucket) (i : Int), l = pre ++ suf → i = (pre.length : Int) → o.length = pre.length →
    f_pluvialref07_coarse.l0 l f t o i = some (o ++ downL f t suf) := by
  intro suf
  induction suf with
  | nil => intro pre o i h1 hi0 _; subst h1; rw [f_pluvialref07_coarse.l0, if_neg (by simp [hi0])]; simp [downL]
  | cons x suf ih =>
    intro pre o i h1 hi0 ho
    have hx := hi x (by rw [h1]; simp)
    have hlen : (l.length : Int) = pre.length + (suf.length + 1) := by rw [h1]; simp
    rw [f_pluvialref07_coarse.l0, if_pos (by simp; omega), at_mid h1 hi0, sb, ref_to hf ht h hx, sb, chkB (by simp; omega), wrap64 (by omega) (by omega)]
    rw [ih (pre ++ [x]) _ (i + 1) (by simp [h1]) (by simp; omega) (by simp; omega)]
    simp [downL]
theorem coarse_eq (l : List TBucket) (f t : Int) (hf : RightS f) (ht : RightS t) (h : t ≤ f) (hc : Cs f l) (hct : cnt l < 18446744073709551616) :
    ∃ o, f_pluvialref07_coarse.f l f t = some o ∧ Canon o ∧ (∀ i, tot o i = tot (downL f t l) i) ∧ o.length ≤ l.length := by
  have hl := hc.len
  have hd := cs_down hf ht h hc
  obtain ⟨o, e, h1, h2, h3⟩ := tidy_ref (downL f t l) (by rw [downL_len]; omega) hd.pos (by rw [cnt_downL]; exact hct)
  unfold f_pluvialref07_coarse.f
  rw [coarse_l0 l f t hf ht h (by omega) hc.ins l [] [] 0 rfl rfl rfl, sb, List.nil_append, e]
  exact ⟨o, rfl, h1, h2, by rw [downL_len] at h3; exact h3⟩
theorem within_l0 (s a : Int) (l : List TBucket) (hs : RightS s) (hl : l.length < 1000000000) (hi : ∀ b ∈ l, InS s b.f0) : ∀ (suf pre : List TBucket) (i : Int), l = pre ++ suf → i = (pre.length : Int) →
    f_pluvialref07_within.l0 s l a i = some (if Strad s a suf then .inl (cg s a) else .inr ()) := by
  intro suf
  induction suf with
  | nil => intro pre i h1 hi0; subst h1; rw [f_pluvialref07_within.l0, if_neg (by simp [hi0]), if_neg (by simp [Strad])]
  | cons x suf ih =>
    intro pre i h1 hi0
    have hx := hi x (by rw [h1]; simp)
    have hsm := inS_small hx
    have hlen : (l.length : Int) = pre.length + (suf.length + 1) := by rw [h1]; simp
    rw [f_pluvialref07_within.l0, if_pos (by simp; omega), at_mid h1 hi0, sb, sb, wrap64 (n := x.f0 - 1) (by omega) (by omega), ref_units hs (i := x.f0 - 1) (by omega), sb, ref_units hs (i := x.f0) (by omega), sb, sb, ifand, sb]
    by_cases hc : (x.f0 - 1) * stp s < a ∧ a < x.f0 * stp s
    · rw [if_pos (by simpa using hc), if_pos ⟨x, by simp, hc⟩, cg_eq hc.1 (by omega)]
    · rw [if_neg (by simpa using hc), wrap64 (by omega) (by omega), ih (pre ++ [x]) (i + 1) (by simp [h1]) (by simp; omega)]
      have : Strad s a (x :: suf) ↔ Strad s a suf := by
        constructor
        · rintro ⟨b, hb, h⟩
          rcases List.mem_cons.1 hb with rfl | hb
          · exact absurd h hc
          · exact ⟨b, hb, h⟩
        · rintro ⟨b, hb, h⟩; exact ⟨b, by simp [hb], h⟩
      by_cases hst : Strad s a suf
      · rw [if_pos hst, if_pos (this.2 hst)]
      · rw [if_neg hst, if_neg (fun q => hst (this.1 q))]
theorem within_eq (s a : Int) (l : List TBucket) (hs : RightS s) (hl : l.length < 1000000000) (hi : ∀ b ∈ l, InS s b.f0) : f_pluvialref07_within.f s l a = some (if Strad s a l then cg s a else a) := by
  unfold f_pluvialref07_within.f
  rw [within_l0 s a l hs hl hi l [] 0 rfl rfl, sb]
  by_cases hst : Strad s a l
  · rw [if_pos hst, if_pos hst]
  · rw [if_neg hst, if_neg hst]
theorem rsw_l0 (h : THist) (a : Int) (hs : RightS h.f1) (hl : h.f6.length < 1000000) (hi : ∀ b ∈ h.f6, InS h.f1 b.f0) (hU : ∀ b ∈ h.f6, 0 ≤ b.f1) : ∀ (suf pre : List TBucket) (z : Int) (o : List TBucket) (i : Int), h.f6 = pre ++ suf → i = (pre.length : Int) → 0 ≤ z → z + cnt suf < 18446744073709551616 → o.length ≤ pre.length →
    f_pluvialref07_swallow.l0 h a z o i = some (z + cnt (dropL h.f1 a suf), o ++ keepL h.f1 a suf) := by
  intro suf
  induction suf with
  | nil => intro pre z o i h1 hi0 _ _ _; rw [f_pluvialref07_swallow.l0, if_neg (by rw [h1]; simp [hi0])]; simp [cnt]
  | cons x suf ih =>
    intro pre z o i h1 hi0 h0 hz ho
    have hx := hi x (by rw [h1]; simp)
    have hsm := inS_small hx
    have hx1 := hU x (by rw [h1]; simp)
    have hn : 0 ≤ cnt suf := cnt_nonneg (fun b hb => hU b (by rw [h1]; simp [hb]))
    have hlen : (h.f6.length : Int) = pre.length + (suf.length + 1) := by rw [h1]; simp
    rw [cnt_cons] at hz
    rw [f_pluvialref07_swallow.l0, if_pos (by simp; omega), at_mid h1 hi0, sb, ref_units hs (by omega), sb, wrap64 (by omega) (by omega)]
    by_cases hc : a < x.f0 * stp h.f1
    · rw [if_neg (by simp; omega), chkB (by simp; omega), sb]
      simp only []
      rw [ih (pre ++ [x]) z (o ++ [x]) (i + 1) (by simp [h1]) (by simp; omega) h0 (by omega) (by simp; omega)]
      simp [hc]
    · rw [if_pos (by simp; omega), wrapU (by omega) (by omega), sb]
      simp only []
      rw [ih (pre ++ [x]) (z + x.f1) o (i + 1) (by simp [h1]) (by simp; omega) (by omega) (by omega) (by simp; omega)]
      rw [show keepL h.f1 a (x :: suf) = keepL h.f1 a suf from List.filter_cons_of_neg (by simpa using hc), show dropL h.f1 a (x :: suf) = x :: dropL h.f1 a suf from List.filter_cons_of_pos (by simpa using hc), cnt_cons, Int.add_assoc]
theorem rsw_l1 (h : THist) (a : Int) (q : List TBucket) (hs : RightS h.f1) (hl : h.f7.length < 1000000) (hi : ∀ b ∈ h.f7, InS h.f1 b.f0) (hU : ∀ b ∈ h.f7, 0 ≤ b.f1) : ∀ (suf pre : List TBucket) (z : Int) (o : List TBucket) (i : Int), h.f7 = pre ++ suf → i = (pre.length : Int) → 0 ≤ z → z + cnt suf < 18446744073709551616 → o.length ≤ pre.length →
    f_pluvialref07_swallow.l1 h a q z o i = some (z + cnt (dropL h.f1 a suf), o ++ keepL h.f1 a suf) := by
  intro suf
  induction suf with
  | nil => intro pre z o i h1 hi0 _ _ _; rw [f_pluvialref07_swallow.l1, if_neg (by rw [h1]; simp [hi0])]; simp [cnt]
  | cons x suf ih =>
    intro pre z o i h1 hi0 h0 hz ho
    have hx := hi x (by rw [h1]; simp)
    have hsm := inS_small hx
    have hx1 := hU x (by rw [h1]; simp)
    have hn : 0 ≤ cnt suf := cnt_nonneg (fun b hb => hU b (by rw [h1]; simp [hb]))
    have hlen : (h.f7.length : Int) = pre.length + (suf.length + 1) := by rw [h1]; simp
    rw [cnt_cons] at hz
    rw [f_pluvialref07_swallow.l1, if_pos (by simp; omega), at_mid h1 hi0, sb, ref_units hs (by omega), sb, wrap64 (by omega) (by omega)]
    by_cases hc : a < x.f0 * stp h.f1
    · rw [if_neg (by simp; omega), chkB (by simp; omega), sb]
      simp only []
      rw [ih (pre ++ [x]) z (o ++ [x]) (i + 1) (by simp [h1]) (by simp; omega) h0 (by omega) (by simp; omega)]
      simp [hc]
    · rw [if_pos (by simp; omega), wrapU (by omega) (by omega), sb]
      simp only []
      rw [ih (pre ++ [x]) (z + x.f1) o (i + 1) (by simp [h1]) (by simp; omega) (by omega) (by omega) (by simp; omega)]
      rw [show keepL h.f1 a (x :: suf) = keepL h.f1 a suf from List.filter_cons_of_neg (by simpa using hc), show dropL h.f1 a (x :: suf) = x :: dropL h.f1 a suf from List.filter_cons_of_pos (by simpa using hc), cnt_cons, Int.add_assoc]
noncomputable def rsw (h : THist) (a : Int) : THist := ⟨h.f0, h.f1, zAt h.f1 a h.f6 h.f7, h.f3 + cnt (dropL h.f1 (zAt h.f1 a h.f6 h.f7) h.f6) + cnt (dropL h.f1 (zAt h.f1 a h.f6 h.f7) h.f7), h.f4, h.f5, keepL h.f1 (zAt h.f1 a h.f6 h.f7) h.f6, keepL h.f1 (zAt h.f1 a h.f6 h.f7) h.f7⟩
theorem rsw_eq (h : THist) (a : Int) (hs : RightS h.f1) (hp : Cs h.f1 h.f6) (hn : Cs h.f1 h.f7) (h3 : 0 ≤ h.f3) (ht : cnt h.f6 + cnt h.f7 + h.f3 < 18446744073709551616) : f_pluvialref07_swallow.f h a = some (rsw h a) := by
  have l1 := hp.len
  have l2 := hn.len
  have c1 := cnt_nonneg hp.nn
  have c2 := cnt_nonneg hn.nn
  have d1 : cnt (keepL h.f1 (zAt h.f1 a h.f6 h.f7) h.f6) + cnt (dropL h.f1 (zAt h.f1 a h.f6 h.f7) h.f6) = cnt h.f6 := cnt_filter h.f6 _
  have e1 := cnt_nonneg (l := keepL h.f1 (zAt h.f1 a h.f6 h.f7) h.f6) (fun b hb => hp.nn b (List.mem_filter.1 hb).1)
  have e2 := cnt_nonneg (l := dropL h.f1 (zAt h.f1 a h.f6 h.f7) h.f6) (fun b hb => hp.nn b (List.mem_filter.1 hb).1)
  have hmax : ((if (decide ((if Strad h.f1 a h.f7 then cg h.f1 a else a) > (if Strad h.f1 a h.f6 then cg h.f1 a else a))) = true then (some (if Strad h.f1 a h.f7 then cg h.f1 a else a)) else (some (if Strad h.f1 a h.f6 then cg h.f1 a else a))) : Option Int) = some (zAt h.f1 a h.f6 h.f7) := by
    rw [← zAt_max]
    by_cases h : (if Strad h.f1 a h.f7 then cg h.f1 a else a) > (if Strad h.f1 a h.f6 then cg h.f1 a else a)
    · rw [if_pos (by simpa using h), if_pos h]
    · rw [if_neg (by simpa using h), if_neg h]
  unfold f_pluvialref07_swallow.f
  rw [within_eq h.f1 a h.f6 hs (by omega) hp.ins, within_eq h.f1 a h.f7 hs (by omega) hn.ins, sb, sb, hmax, sb, rsw_l0 h _ hs (by omega) hp.ins hp.nn h.f6 [] h.f3 [] 0 rfl rfl h3 (by omega) (Nat.le_refl _), sb]
  simp only [List.nil_append]
  rw [rsw_l1 h _ _ hs (by omega) hn.ins hn.nn h.f7 [] _ [] 0 rfl rfl (by omega) (by omega) (Nat.le_refl _), sb]
  simp only [List.nil_append]
  rfl
theorem strad_of {s a : Int} {l l' : List TBucket} (hp : ∀ b ∈ l, 0 < b.f1) (h : ∀ i, tot l i = tot l' i) (hs : Strad s a l) : Strad s a l' := by
  obtain ⟨b, hb, h1⟩ := hs
  by_cases hc : ∃ c ∈ l', c.f0 = b.f0
  · obtain ⟨c, hc, e⟩ := hc; exact ⟨c, hc, e ▸ h1⟩
  · have h2 := tot_mem (fun b hb => Int.le_of_lt (hp b hb)) hb
    rw [h, tot_zero (fun c hc2 e => hc ⟨c, hc2, e⟩)] at h2
    have := hp b hb; omega
theorem zAt_congr {s a : Int} {p n p' n' : List TBucket} (hp : ∀ b ∈ p, 0 < b.f1) (hn : ∀ b ∈ n, 0 < b.f1) (hp' : ∀ b ∈ p', 0 < b.f1) (hn' : ∀ b ∈ n', 0 < b.f1) (h1 : ∀ i, tot p i = tot p' i) (h2 : ∀ i, tot n i = tot n' i) : zAt s a p n = zAt s a p' n' := by
  unfold zAt
  have e1 : Strad s a p ↔ Strad s a p' := ⟨strad_of hp h1, strad_of hp' (fun i => (h1 i).symm)⟩
  have e2 : Strad s a n ↔ Strad s a n' := ⟨strad_of hn h2, strad_of hn' (fun i => (h2 i).symm)⟩
  by_cases h : Strad s a p ∨ Strad s a n
  · rw [if_pos h, if_pos (by rw [← e1, ← e2]; exact h)]
  · rw [if_neg h, if_neg (by rw [← e1, ← e2]; exact h)]
theorem swal_rsw {h g : THist} {p n : List TBucket} {a : Int} {r : THist} (w : Swal h p n a r) (hp : ∀ b ∈ p, 0 < b.f1) (hn : ∀ b ∈ n, 0 < b.f1) (c6 : Canon g.f6) (c7 : Canon g.f7) (t6 : ∀ i, tot g.f6 i = tot p i) (t7 : ∀ i, tot g.f7 i = tot n i)
    (e0 : g.f0 = h.f0) (e1 : g.f1 = h.f1) (e3 : g.f3 = h.f3) (e4 : g.f4 = cnt p + cnt n + h.f3) (e5 : g.f5 = h.f5) : rsw g a = r := by
  have hz : zAt g.f1 a g.f6 g.f7 = zAt h.f1 a p n := by rw [e1]; exact zAt_congr c6.pos c7.pos hp hn t6 t7
  have k6 : Canon (keepL h.f1 (zAt h.f1 a p n) g.f6) := ⟨c6.up.filter _, fun b hb => c6.pos b (List.mem_filter.1 hb).1⟩
  have k7 : Canon (keepL h.f1 (zAt h.f1 a p n) g.f7) := ⟨c7.up.filter _, fun b hb => c7.pos b (List.mem_filter.1 hb).1⟩
  have q6 : keepL h.f1 (zAt h.f1 a p n) g.f6 = r.f6 := canon_unique k6 w.valid.pos.canon (fun i => by rw [w.tpos, tot_filter g.f6 (above h.f1 (zAt h.f1 a p n)) i, t6])
  have q7 : keepL h.f1 (zAt h.f1 a p n) g.f7 = r.f7 := canon_unique k7 w.valid.neg.canon (fun i => by rw [w.tneg, tot_filter g.f7 (above h.f1 (zAt h.f1 a p n)) i, t7])
  have d6 : cnt (keepL h.f1 (zAt h.f1 a p n) g.f6) + cnt (dropL h.f1 (zAt h.f1 a p n) g.f6) = cnt g.f6 := cnt_filter g.f6 _
  have d7 : cnt (keepL h.f1 (zAt h.f1 a p n) g.f7) + cnt (dropL h.f1 (zAt h.f1 a p n) g.f7) = cnt g.f7 := cnt_filter g.f7 _
  have m6 := cnt_congr t6
  have m7 := cnt_congr t7
  have hc := w.valid.count
  have hcc := w.count
  rw [← q6, ← q7] at hc
  unfold rsw
  rw [hz, e1]
  exact hist_ext (e0.trans w.kind.symm) w.schema.symm w.zeroAt.symm (by simp only; omega) (by simp only; rw [e4, w.count]) (e5.trans w.sum.symm) q6 q7
theorem ref_Down (a : THist) (s : Int) (hv : Valid a) (hf : Fits a) : ∃ r e, f_meld_Down.f a s = some (r, e) ∧ f_pluvialref07_Down.f a s = some (r, e) := by
  by_cases h : RightS s ∧ s ≤ a.f1
  case neg =>
    refine ⟨h0, 20, Down_bad a s h, ?_⟩
    unfold f_pluvialref07_Down.f
    by_cases hs : RightS s
    · rw [ref_right, sb, if_neg (by simp [hs]), sb, if_pos (by simp; have : ¬ s ≤ a.f1 := fun q => h ⟨hs, q⟩; omega)]; rfl
    · rw [ref_right, sb, if_pos (by simp [hs]), sb, if_pos rfl]; rfl
  obtain ⟨hs, hle⟩ := h
  have l1 := hv.pos.len
  have l2 := hv.neg.len
  have h1 := hv.count
  have h2 := hv.total
  have p6 := cs_down hv.schema hs hle (side_cs hv.pos)
  have p7 := cs_down hv.schema hs hle (side_cs hv.neg)
  have n6 := cnt_nonneg hv.pos.canon.nn
  have n7 := cnt_nonneg hv.neg.canon.nn
  have hz := hf.zero.1
  obtain ⟨r, e, w⟩ := swallow_eq (⟨a.f0, s, a.f2, a.f3, a.f4, a.f5, a.f6, a.f7⟩ : THist) (downL a.f1 s a.f6) (downL a.f1 s a.f7) a.f2 hv.kind hs hv.zero hz hf.sum p6 p7
    (by rw [downL_len]; exact l1) (by rw [downL_len]; exact l2) (by rw [cnt_downL, cnt_downL]; exact h2)
  refine ⟨r, 0, ?_, ?_⟩
  · unfold f_meld_Down.f
    rw [right_T hs, sb, if_neg (by simp), sb, if_neg (by simp; omega), down_eq a.f6 a.f1 s hv.schema hs hle (by omega) (side_cs hv.pos).ins, down_eq a.f7 a.f1 s hv.schema hs hle (by omega) (side_cs hv.neg).ins, sb, sb, e]
    rfl
  · obtain ⟨o6, e6, c6, t6, m6⟩ := coarse_eq a.f6 a.f1 s hv.schema hs hle (side_cs hv.pos) (by omega)
    obtain ⟨o7, e7, c7, t7, m7⟩ := coarse_eq a.f7 a.f1 s hv.schema hs hle (side_cs hv.neg) (by omega)
    have cs6 : Cs s o6 := ⟨by omega, fun b hb => by
      by_cases hc : ∃ x ∈ downL a.f1 s a.f6, x.f0 = b.f0
      · obtain ⟨x, hx, e⟩ := hc; rw [← e]; exact p6.ins x hx
      · have h3 := t6 b.f0
        rw [c6.tot_of hb, tot_zero (fun x hx e => hc ⟨x, hx, e⟩)] at h3
        have := c6.pos b hb; omega, c6.pos⟩
    have cs7 : Cs s o7 := ⟨by omega, fun b hb => by
      by_cases hc : ∃ x ∈ downL a.f1 s a.f7, x.f0 = b.f0
      · obtain ⟨x, hx, e⟩ := hc; rw [← e]; exact p7.ins x hx
      · have h3 := t7 b.f0
        rw [c7.tot_of hb, tot_zero (fun x hx e => hc ⟨x, hx, e⟩)] at h3
        have := c7.pos b hb; omega, c7.pos⟩
    have q6 := cnt_congr t6
    have q7 := cnt_congr t7
    rw [cnt_downL] at q6 q7
    unfold f_pluvialref07_Down.f
    rw [ref_right, sb, if_neg (by simp [hs]), sb, if_neg (by simp; omega), e6, e7, sb, sb, rsw_eq (⟨a.f0, s, a.f2, a.f3, a.f4, a.f5, o6, o7⟩ : THist) a.f2 hs cs6 cs7 hz (by simp only; omega), sb]
    rw [swal_rsw (g := (⟨a.f0, s, a.f2, a.f3, a.f4, a.f5, o6, o7⟩ : THist)) w p6.pos p7.pos c6 c7 t6 t7 rfl rfl rfl (by simp only [cnt_downL]; exact h1) rfl]
theorem ref_Widen (a : THist) (z : Int) (hv : Valid a) (hf : Fits a) : ∃ r e, f_meld_Widen.f a z = some (r, e) ∧ f_pluvialref07_Widen.f a z = some (r, e) := by
  by_cases h1 : z = a.f2
  · subst h1
    refine ⟨a, 0, Widen_same a hv, ?_⟩
    unfold f_pluvialref07_Widen.f
    rw [if_neg (by simp), if_neg (by simp), sb, if_neg (by simp), if_pos (by simp)]
  by_cases h2 : a.f2 < z ∧ -262144 < z ∧ z ≤ 262144
  · obtain ⟨r, e, w⟩ := Widen_swal a z hv hf h2.2 h2.1
    refine ⟨r, 0, e, ?_⟩
    have hc := hv.count
    unfold f_pluvialref07_Widen.f
    rw [if_neg (by simp; omega), if_pos (by simpa using h1), if_neg (by simp; omega), sb, if_neg (by simp; omega), if_neg (by simpa using h1), rsw_eq a z hv.schema (side_cs hv.pos) (side_cs hv.neg) hf.zero.1 hv.total, sb,
      swal_rsw (g := a) w (side_cs hv.pos).pos (side_cs hv.neg).pos hv.pos.canon hv.neg.canon (fun _ => rfl) (fun _ => rfl) rfl rfl rfl hc rfl]
  · refine ⟨h0, 31, Widen_bad a z (by by_cases h3 : z < a.f2; exact .inl h3; exact .inr ⟨h1, fun q => h2 ⟨by omega, q⟩⟩), ?_⟩
    unfold f_pluvialref07_Widen.f
    by_cases h3 : z < a.f2
    · rw [if_pos (by simpa using h3), sb, if_pos rfl]; rfl
    · rw [if_neg (by simpa using h3), if_pos (by simpa using h1)]
      have : ((if (decide (z ≤ (-262144))) = true then (some true) else (some (decide (z > (262144 : Int))))) : Option (Bool)) = some true := by
        by_cases h4 : z ≤ -262144
        · rw [if_pos (by simpa using h4)]
        · rw [if_neg (by simpa using h4)]; simp; omega
      rw [this, sb, if_pos rfl]; rfl
theorem rsame_self (l : List TBucket) (hl : l.length < 1000000000) : f_pluvialref05_same.f l l = some true := by
  unfold f_pluvialref05_same.f
  rw [if_neg (by simp)]
  have : ∀ (suf pre : List TBucket) (i : Int), l = pre ++ suf → i = (pre.length : Int) → f_pluvialref05_same.l0 l l i = some (.inr ()) := by
    intro suf
    induction suf with
    | nil => intro pre i h1 hi; subst h1; rw [f_pluvialref05_same.l0, if_neg (by simp [hi])]
    | cons x suf ih =>
      intro pre i h1 hi
      have hlen : (l.length : Int) = pre.length + (suf.length + 1) := by rw [h1]; simp
      rw [f_pluvialref05_same.l0, if_pos (by simp; omega), at_mid h1 hi, sb, sb, if_neg (by simp), wrap64 (by omega) (by omega)]
      exact ih (pre ++ [x]) (i + 1) (by simp [h1]) (by simp; omega)
  rw [this l [] 0 rfl rfl]; rfl
theorem rSame_self (h : THist) (hp : h.f6.length < 1000000000) (hn : h.f7.length < 1000000000) : f_pluvialref05_Same.f h h = some true := by
  unfold f_pluvialref05_Same.f
  rw [rsame_self _ hp, rsame_self _ hn]
  simp [sb]
end Go.Proofs.Yticdbkmekkbiiaa.PvGB
set_option linter.unusedVariables false
set_option linter.unusedSimpArgs false
namespace Go.Proofs.Yticdbkmekkbiiaa.PvGB
open Go Go.Pv Go.Pv.GS
open Classical
theorem Widen_valid (a r : THist) (z : Int) (hv : Valid a) (hf : Fits a) (h : f_meld_Widen.f a z = some (r, 0)) : Valid r ∧ Fits r := by
  by_cases h1 : z = a.f2
  · subst h1; rw [Widen_same a hv] at h; simp at h; subst h; exact ⟨hv, hf⟩
  by_cases h2 : a.f2 < z ∧ -262144 < z ∧ z ≤ 262144
  · obtain ⟨r', e, w⟩ := Widen_swal a z hv hf h2.2 h2.1
    rw [e] at h; simp at h; subst h; exact ⟨w.valid, w.fits⟩
  · rw [Widen_bad a z (by by_cases h3 : z < a.f2; exact .inl h3; exact .inr ⟨h1, fun q => h2 ⟨by omega, q⟩⟩)] at h
    simp at h
theorem Widen_code (a r : THist) (z e : Int) (hv : Valid a) (hf : Fits a) (h : f_meld_Widen.f a z = some (r, e)) : e = 0 ∨ e = 31 := by
  by_cases h1 : z = a.f2
  · subst h1; rw [Widen_same a hv] at h; simp at h; exact .inl h.2.symm
  by_cases h2 : a.f2 < z ∧ -262144 < z ∧ z ≤ 262144
  · obtain ⟨r', e', w⟩ := Widen_swal a z hv hf h2.2 h2.1
    rw [e'] at h; simp at h; exact .inl h.2.symm
  · rw [Widen_bad a z (by by_cases h3 : z < a.f2; exact .inl h3; exact .inr ⟨h1, fun q => h2 ⟨by omega, q⟩⟩)] at h
    simp at h; exact .inr h.2.symm
theorem ref_alike_loop (p q p' q' : THist) (hp : Valid p) (fp : Fits p) (hq : Valid q) (fq : Fits q)
    (h : f_meld_Alike.l0 (p.f0, p.f1, p.f2, p.f3, p.f4, p.f5, p.f6, p.f7, q.f0, q.f1, q.f2, q.f3, q.f4, q.f5, q.f6, q.f7) = some (.inr (p'.f0, p'.f1, p'.f2, p'.f3, p'.f4, p'.f5, p'.f6, p'.f7, q'.f0, q'.f1, q'.f2, q'.f3, q'.f4, q'.f5, q'.f6, q'.f7))) :
    f_pluvialref07_Alike.l0 (p.f0, p.f1, p.f2, p.f3, p.f4, p.f5, p.f6, p.f7, q.f0, q.f1, q.f2, q.f3, q.f4, q.f5, q.f6, q.f7) = some (p'.f0, p'.f1, p'.f2, p'.f3, p'.f4, p'.f5, p'.f6, p'.f7, q'.f0, q'.f1, q'.f2, q'.f3, q'.f4, q'.f5, q'.f6, q'.f7) := by
  refine f_meld_Alike.l0.partial_correctness (motive := fun v o => ∀ p q : THist, v = (p.f0, p.f1, p.f2, p.f3, p.f4, p.f5, p.f6, p.f7, q.f0, q.f1, q.f2, q.f3, q.f4, q.f5, q.f6, q.f7) → Valid p → Fits p → Valid q → Fits q →
    o = .inr (p'.f0, p'.f1, p'.f2, p'.f3, p'.f4, p'.f5, p'.f6, p'.f7, q'.f0, q'.f1, q'.f2, q'.f3, q'.f4, q'.f5, q'.f6, q'.f7) → f_pluvialref07_Alike.l0 v = some (p'.f0, p'.f1, p'.f2, p'.f3, p'.f4, p'.f5, p'.f6, p'.f7, q'.f0, q'.f1, q'.f2, q'.f3, q'.f4, q'.f5, q'.f6, q'.f7)) ?_ _ _ h p q rfl hp fp hq fq rfl
  clear h hp fp hq fq p q
  intro self ih v o H p q hv hp fp hq fq ho
  subst hv; subst ho
  dsimp only at H
  rw [f_pluvialref07_Alike.l0]
  dsimp only
  by_cases hz : p.f2 = q.f2
  · rw [if_neg (by simpa using hz)] at H ⊢
    simpa using H
  · rw [if_pos (by simpa using hz)] at H ⊢
    obtain ⟨⟨r1, e1⟩, w1, H⟩ := bind_of H
    obtain ⟨⟨r2, e2⟩, w2, H⟩ := bind_of H
    dsimp only at H
    have he : e1 = 0 ∧ e2 = 0 := by
      rcases Widen_code p r1 _ e1 hp fp w1 with h1 | h1 <;> rcases Widen_code q r2 _ e2 hq fq w2 with h2 | h2 <;> subst h1 <;> subst h2 <;> simp at H ⊢
    obtain ⟨rfl, rfl⟩ := he
    rw [if_neg (by simp)] at H
    have v1 := Widen_valid p r1 _ hp fp w1
    have v2 := Widen_valid q r2 _ hq fq w2
    have key := ih _ _ H r1 r2 rfl v1.1 v1.2 v2.1 v2.2 rfl
    by_cases hlt : p.f2 < q.f2
    · rw [if_pos (show q.f2 > p.f2 from hlt)] at w1 w2
      rw [Widen_same q hq] at w2
      simp at w2; subst w2
      obtain ⟨r, e, g1, g2⟩ := ref_Widen p q.f2 hp fp
      rw [w1] at g1; simp at g1
      obtain ⟨rfl, rfl⟩ := g1
      rw [if_pos (by simpa using hlt), g2, sb, sb]
      exact key
    · rw [if_neg (show ¬ q.f2 > p.f2 from hlt)] at w1 w2
      rw [Widen_same p hp] at w1
      simp at w1; subst w1
      obtain ⟨r, e, g1, g2⟩ := ref_Widen q p.f2 hq fq
      rw [w2] at g1; simp at g1
      obtain ⟨rfl, rfl⟩ := g1
      rw [if_neg (by simpa using hlt), g2, sb, sb]
      exact key
theorem ref_Alike (a b : THist) (ha : Valid a) (fa : Fits a) (hb : Valid b) (fb : Fits b) : ∃ p q, f_meld_Alike.f a b = some (p, q, 0) ∧ f_pluvialref07_Alike.f a b = some (p, q) ∧ Valid p ∧ Valid q ∧ p.f2 = q.f2 ∧ p.f1 = q.f1 := by
  have hs : RightS (if b.f1 < a.f1 then b.f1 else a.f1) := by split; exact hb.schema; exact ha.schema
  obtain ⟨p0, e1, c1⟩ := Down_eq a _ ha fa hs (by split <;> omega)
  obtain ⟨q0, e2, c2⟩ := Down_eq b _ hb fb hs (by split <;> omega)
  have c1' := c1
  have c2' := c2
  rw [← c1.zeroAt] at c1'
  rw [← c2.zeroAt] at c2'
  obtain ⟨p, q, z, el, cp, cq, hz⟩ := alike_loop a b p0 q0 _ _ _ c1' c2'
  refine ⟨p, q, ?_, ?_, cp.valid, cq.valid, cp.zeroAt.trans cq.zeroAt.symm, cp.schema.trans cq.schema.symm⟩
  · unfold f_meld_Alike.f
    rw [e1, sb, e2, sb, if_neg (by simp)]
    (try simp only [])
    rw [el]
    rfl
  · have rl := ref_alike_loop p0 q0 p q c1.valid c1.fits c2.valid c2.fits el
    obtain ⟨r1, g1, d1, d2⟩ := ref_Down a (if b.f1 < a.f1 then b.f1 else a.f1) ha fa
    obtain ⟨r2, g2, d3, d4⟩ := ref_Down b (if b.f1 < a.f1 then b.f1 else a.f1) hb fb
    rw [e1] at d1; simp at d1; obtain ⟨rfl, rfl⟩ := d1
    rw [e2] at d3; simp at d3; obtain ⟨rfl, rfl⟩ := d3
    unfold f_pluvialref07_Alike.f
    by_cases hlt : a.f1 < b.f1
    · rw [if_neg (show ¬ b.f1 < a.f1 by omega)] at d2 d4
      rw [if_pos (by simpa using hlt), d4, sb, d2, sb, sb]
      dsimp only
      rw [rl]; rfl
    · by_cases hlt2 : b.f1 < a.f1
      · rw [if_pos hlt2] at d2 d4
        rw [if_neg (by simpa using hlt), d2, sb, d4, sb, sb]
        dsimp only
        rw [rl]; rfl
      · have heq : a.f1 = b.f1 := by omega
        rw [if_neg hlt2] at d2 d4
        rw [if_neg (by simpa using hlt), ← heq, d2, sb, d4, sb, sb]
        dsimp only
        rw [rl]; rfl
end Go.Proofs.Yticdbkmekkbiiaa.PvGB
set_option linter.unusedVariables false
set_option linter.unusedSimpArgs false
namespace Go.Proofs.Yticdbkmekkbiiaa.PvGB
open Go Go.Pv Go.Pv.GS
theorem addint_l0 (l : List Int) (hl : l.length < 1000000) : ∀ (suf pre : List Int) (hi lo i : Int), l = pre ++ suf → i = (pre.length : Int) → U64 lo → -(pre.length : Int) ≤ hi → hi ≤ pre.length → (∀ x ∈ suf, I64 x) →
    ∃ hi' lo', f_num_AddInt.l0 l hi lo i = some (hi', lo') ∧ U64 lo' ∧ hi' * 18446744073709551616 + lo' = hi * 18446744073709551616 + lo + suf.sum ∧ -(l.length : Int) ≤ hi' ∧ hi' ≤ l.length := by
  intro suf
  induction suf with
  | nil =>
    intro pre hi lo i h1 hi0 hlo ha hb _
    rw [List.append_nil] at h1; subst h1
    rw [f_num_AddInt.l0, if_neg (by simp [hi0])]
    exact ⟨hi, lo, rfl, hlo, by simp, ha, hb⟩
  | cons x suf ih =>
    intro pre hi lo i h1 hi0 hlo ha hb hs
    have hx := hs x (by simp)
    have hlen : (l.length : Int) = pre.length + (suf.length + 1) := by rw [h1]; simp
    rw [f_num_AddInt.l0, if_pos (by simp; omega), at_mid h1 hi0, sb, chkB ⟨hlo.1, (u64_wrap x).1, by omega, by omega⟩, wrap64 (n := i + 1) (by omega) (by omega)]
    rw [Int.fdiv_eq_ediv_of_nonneg _ (by omega), wrapU_eq x]
    rw [wrap64 (n := (lo + x % 18446744073709551616 + 0) / 18446744073709551616) (by omega) (by omega), wrap64 (n := x / 9223372036854775808 + _) (by omega) (by omega), wrap64 (n := hi + _) (by omega) (by omega)]
    obtain ⟨hi', lo', e, g1, g2, g3, g4⟩ := ih (pre ++ [x]) (hi + (x / 9223372036854775808 + (lo + x % 18446744073709551616 + 0) / 18446744073709551616)) ((lo + x % 18446744073709551616 + 0) % 18446744073709551616) (i + 1) (by simp [h1]) (by simp; omega) ⟨by omega, by omega⟩ (by simp; omega) (by simp; omega) (fun y hy => hs y (by simp [hy]))
    refine ⟨hi', lo', e, g1, ?_, g3, g4⟩
    rw [g2, List.sum_cons]
    have hx1 := hx.1
    have hx2 := hx.2
    have : x / 9223372036854775808 * 18446744073709551616 + x % 18446744073709551616 = x := by omega
    omega
theorem addint (l : List Int) (hl : l.length < 1000000) (h : ∀ x ∈ l, I64 x) : f_num_AddInt.f l = some (if I64 l.sum then (l.sum, 0) else (0, 5)) := by
  unfold f_num_AddInt.f
  obtain ⟨hi, lo, e, g1, g2, g3, g4⟩ := addint_l0 l hl l [] 0 0 0 rfl rfl (by omega) (by simp) (by simp) h
  rw [e, sb]
  simp only []
  rw [Int.fdiv_eq_ediv_of_nonneg _ (by omega), wrap64_eq lo]
  simp only [Int.zero_mul, Int.zero_add] at g2
  by_cases hI : I64 l.sum
  · rw [if_pos hI, if_neg (by simp; omega)]
    congr 2; omega
  · rw [if_neg hI, if_pos (by simp; omega)]
theorem subint {a b : Int} (ha : I64 a) (hb : I64 b) : f_num_SubInt.f a b = some (if I64 (a - b) then (a - b, 0) else (0, 5)) := by
  unfold f_num_SubInt.f
  rw [wrap64_eq]
  by_cases hI : I64 (a - b)
  · rw [if_pos hI]
    have e : (a - b + 9223372036854775808) % 18446744073709551616 - 9223372036854775808 = a - b := by omega
    rw [e, if_neg]
    by_cases h : a < b
    · simp [h] <;> omega
    · simp [h]; omega
  · rw [if_neg hI, if_pos]
    by_cases h : a < b
    · simp [h]; omega
    · simp [h]; omega
theorem num_sub {a b : Int} (ha : U64 a) (hb : U64 b) : f_num_Sub.f a b = some (if b ≤ a then (a - b, 0) else (0, 5)) := by
  unfold f_num_Sub.f
  by_cases h : b ≤ a
  · rw [if_neg (by simp; omega), if_pos h, wrapU (by omega) (by omega)]
  · rw [if_pos (by simp; omega), if_neg h]
theorem halves_eq {x : Int} (hx : I64 x) : ((if (decide ((Int.tmod x (4294967296 : Int)) < (0 : Int))) = true then (some (IntKind.i64.wrap ((IntKind.i64.wrap (Int.tdiv x (4294967296 : Int))) - (1 : Int)), IntKind.i64.wrap ((Int.tmod x (4294967296 : Int)) + (4294967296 : Int)))) else (some (IntKind.i64.wrap (Int.tdiv x (4294967296 : Int)), Int.tmod x (4294967296 : Int)))) : Option (Int × Int)) = some (x / 4294967296, x % 4294967296) := by
  by_cases h0 : 0 ≤ x
  · rw [Int.tdiv_eq_ediv_of_nonneg h0, Int.tmod_eq_emod_of_nonneg h0, if_neg (by simp; omega), wrap64 (by omega) (by omega)]
  · have e1 : Int.tdiv x 4294967296 = -((-x) / 4294967296) := by
      rw [← Int.tdiv_eq_ediv_of_nonneg (show 0 ≤ -x by omega), Int.neg_tdiv]; omega
    have e2 : Int.tmod x 4294967296 = -((-x) % 4294967296) := by
      rw [← Int.tmod_eq_emod_of_nonneg (show 0 ≤ -x by omega), Int.neg_tmod]; omega
    rw [e1, e2]
    by_cases h1 : (-x) % 4294967296 = 0
    · rw [if_neg (by simp; omega), wrap64 (by omega) (by omega)]
      congr 2 <;> omega
    · rw [if_pos (by simp; omega), wrap64 (n := -(-x / 4294967296)) (by omega) (by omega), wrap64 (by omega) (by omega), wrap64 (by omega) (by omega)]
      congr 2 <;> omega
theorem raddint_l0 (l : List Int) (hl : l.length < 1000) : ∀ (suf pre : List Int) (hi lo i : Int), l = pre ++ suf → i = (pre.length : Int) → 0 ≤ lo → lo ≤ 4294967296 * pre.length → -(2147483648 * (pre.length : Int)) ≤ hi → hi ≤ 2147483648 * pre.length → (∀ x ∈ suf, I64 x) →
    ∃ hi' lo', f_pluvialref01_AddInt.l0 l hi lo i = some (hi', lo') ∧ 0 ≤ lo' ∧ lo' ≤ 4294967296 * l.length ∧ hi' * 4294967296 + lo' = hi * 4294967296 + lo + suf.sum ∧ -(2147483648 * (l.length : Int)) ≤ hi' ∧ hi' ≤ 2147483648 * l.length := by
  intro suf
  induction suf with
  | nil =>
    intro pre hi lo i h1 hi0 h2 h3 ha hb _
    rw [List.append_nil] at h1; subst h1
    rw [f_pluvialref01_AddInt.l0, if_neg (by simp [hi0])]
    exact ⟨hi, lo, rfl, h2, h3, by simp, ha, hb⟩
  | cons x suf ih =>
    intro pre hi lo i h1 hi0 h2 h3 ha hb hs
    have hx := hs x (by simp)
    have hlen : (l.length : Int) = pre.length + (suf.length + 1) := by rw [h1]; simp
    rw [f_pluvialref01_AddInt.l0, if_pos (by simp; omega), at_mid h1 hi0, sb, halves_eq hx, sb]
    simp only []
    rw [wrap64 (n := i + 1) (by omega) (by omega), wrap64 (n := hi + _) (by omega) (by omega), wrap64 (n := lo + _) (by omega) (by omega)]
    obtain ⟨hi', lo', e, g1, g2, g3, g4, g5⟩ := ih (pre ++ [x]) (hi + x / 4294967296) (lo + x % 4294967296) (i + 1) (by simp [h1]) (by simp; omega) (by omega) (by simp; omega) (by simp; omega) (by simp; omega) (fun y hy => hs y (by simp [hy]))
    refine ⟨hi', lo', e, g1, g2, ?_, g4, g5⟩
    rw [g3, List.sum_cons]; omega
theorem raddint (l : List Int) (hl : l.length < 1000) (h : ∀ x ∈ l, I64 x) : f_pluvialref01_AddInt.f l = some (if I64 l.sum then (l.sum, 0) else (0, 5)) := by
  unfold f_pluvialref01_AddInt.f
  obtain ⟨hi, lo, e, g1, g2, g3, g4, g5⟩ := raddint_l0 l hl l [] 0 0 0 rfl rfl (by omega) (by simp) (by simp) (by simp) h
  rw [e, sb]
  simp only []
  simp only [Int.zero_mul, Int.zero_add] at g3
  rw [Int.tdiv_eq_ediv_of_nonneg g1, Int.tmod_eq_emod_of_nonneg g1, wrap64 (n := lo / 4294967296) (by omega) (by omega), wrap64 (n := hi + _) (by omega) (by omega), ifor, sb]
  by_cases hI : I64 l.sum
  · rw [if_pos hI, if_neg (by simp; omega), wrap64 (n := (hi + _) * _) (by omega) (by omega), wrap64 (by omega) (by omega)]
    congr 2; omega
  · rw [if_neg hI, if_pos (by simp; omega)]
end Go.Proofs.Yticdbkmekkbiiaa.PvGB
set_option linter.unusedVariables false
set_option linter.unusedSimpArgs false
namespace Go.Proofs.Yticdbkmekkbiiaa.PvGB
open Go Go.Pv Go.Pv.GS
open Classical
structure Pair (p q : THist) : Prop where
  vp : Valid p
  vq : Valid q
  fp : Fits p
  fq : Fits q
  schema : p.f1 = q.f1
  zeroAt : p.f2 = q.f2
theorem Alike_pair (a b : THist) (ha : Valid a) (fa : Fits a) (hb : Valid b) (fb : Fits b) :
    ∃ p q s z, f_meld_Alike.f a b = some (p, q, 0) ∧ f_pluvialref07_Alike.f a b = some (p, q) ∧ Cut a s z p ∧ Cut b s z q ∧ Pair p q := by
  obtain ⟨p0, q0, p, q, s, z, _, _, _, _, _, e, cp, cq, _⟩ := Alike_eq a b ha fa hb fb
  obtain ⟨p', q', e', r', _⟩ := ref_Alike a b ha fa hb fb
  rw [e] at e'; simp at e'
  obtain ⟨rfl, rfl⟩ := e'
  exact ⟨p, q, s, z, e, r', cp, cq, cp.valid, cq.valid, cp.fits, cq.fits, cp.schema.trans cq.schema.symm, cp.zeroAt.trans cq.zeroAt.symm⟩
theorem Pair.bok {p q : THist} (h : Pair p q) {b : TBucket} (hb : b ∈ q.f6 ∨ b ∈ q.f7) : BOk p.f1 p.f2 b := by
  rw [h.schema, h.zeroAt]
  rcases hb with hb | hb
  · exact h.vq.pos.ok b hb
  · exact h.vq.neg.ok b hb
theorem buckets_limit (h : THist) (l : List TBucket) (hl : 512 < l.length) : f_hist_buckets.f h l = some 9 := by
  unfold f_hist_buckets.f
  rw [if_pos (by simp; omega)]
theorem check_limit (h : THist) (hf : Fits h) (hk : h.f0 = 0 ∨ h.f0 = 1) (hs : RightS h.f1) (hz : h.f2 = -524288 ∨ (-262144 < h.f2 ∧ h.f2 ≤ 262144)) (o6 : ∀ b ∈ h.f6, BOk h.f1 h.f2 b) (u6 : h.f6.Pairwise (fun a b => a.f0 < b.f0)) (h6 : h.f6.length < 1000000) (h7 : h.f7.length < 1000000)
    (hl : 512 < h.f6.length ∨ 512 < h.f7.length) : f_hist_Check.f h = some 9 := by
  unfold f_hist_Check.f
  have hk' : ((if (h.f0 != (0 : Int)) = true then (some (h.f0 != (1 : Int))) else (some false)) : Option (Bool)) = some false := by
    rcases hk with h | h <;> simp [h]
  have hz' : ((if (h.f2 != (-524288)) = true then (if (decide (h.f2 ≤ (-262144))) = true then (some true) else (some (decide (h.f2 > (262144 : Int))))) else (some false)) : Option (Bool)) = some false := by
    rcases hz with h | h
    · simp [h]
    · split
      · rw [if_neg (by simp; omega)]; simp; omega
      · rfl
  rw [hk', sb, if_neg (by simp), right_T hs, sb, if_neg (by simp), hz', sb, if_neg (by simp), check_l0_eq]
  by_cases c : 512 < h.f6.length
  · rw [buckets_limit h h.f6 c, sb, if_pos (by simp), sb]
  · obtain ⟨r, e, i⟩ := buckets_iff h h.f6 hs (by omega) (fun b hb => (hf.pos b hb).2)
    have hr : r = 0 := i.2 ⟨by omega, o6, u6⟩
    rw [e, hr, sb, if_neg (by simp), buckets_limit h h.f7 (hl.resolve_left c), sb, if_pos (by simp), sb]
theorem make_over (g : THist) (p n : List TBucket) (hp : Bs g.f1 g.f2 p) (hn : Bs g.f1 g.f2 n) (pu : ∀ b ∈ p, U64 b.f1) (nu : ∀ b ∈ n, U64 b.f1) (h3 : U64 g.f3) (ht : 18446744073709551616 ≤ cnt p + cnt n + g.f3) : f_hist_Make.f g p n = some (h0, 5) := by
  have lp := hp.len
  have ln := hn.len
  unfold f_hist_Make.f
  rcases tidy_spec p (by omega) pu with ⟨o, e1, c1, t1, u1, _, m1⟩ | ⟨e1, _⟩ <;> rcases tidy_spec n (by omega) nu with ⟨o2, e2, c2, t2, u2, _, m2⟩ | ⟨e2, _⟩
  · rw [e1, e2, sb, sb, if_neg (by simp), total3 o o2 g.f3 (by omega) (by omega) u1 u2 h3, if_neg (by rw [cnt_congr t1, cnt_congr t2]; omega), sb, if_pos (by simp)]; rfl
  · rw [e1, e2, sb, sb]; rfl
  · rw [e1, e2, sb, sb]; rfl
  · rw [e1, e2, sb, sb]; rfl
theorem make_limit (g : THist) (p n : List TBucket) (hk : g.f0 = 0 ∨ g.f0 = 1) (hs : RightS g.f1) (hz : g.f2 = -524288 ∨ (-262144 < g.f2 ∧ g.f2 ≤ 262144)) (h3 : 0 ≤ g.f3) (h5 : I64 g.f5) (hp : Bs g.f1 g.f2 p) (hn : Bs g.f1 g.f2 n) (ht : cnt p + cnt n + g.f3 < 18446744073709551616)
    (hl : ∃ o o2, Canon o ∧ Canon o2 ∧ (∀ i, tot o i = tot p i) ∧ (∀ i, tot o2 i = tot n i) ∧ (512 < o.length ∨ 512 < o2.length)) : f_hist_Make.f g p n = some (h0, 9) := by
  have np := cnt_nonneg hp.nn
  have nn := cnt_nonneg hn.nn
  have lp := hp.len
  have ln := hn.len
  obtain ⟨o, e1, c1, t1, b1, u1, l1, q1⟩ := tidy_ok hp (by omega)
  obtain ⟨o2, e2, c2, t2, b2, u2, l2, q2⟩ := tidy_ok hn (by omega)
  obtain ⟨w, w2, d1, d2, s1, s2, hlen⟩ := hl
  obtain rfl := canon_unique c1 d1 (fun i => (t1 i).trans (s1 i).symm)
  obtain rfl := canon_unique c2 d2 (fun i => (t2 i).trans (s2 i).symm)
  have htot := total3 o o2 g.f3 (by omega) (by omega) u1 u2 ⟨h3, by omega⟩
  rw [q1, q2, if_pos ht] at htot
  have hf : Fits (⟨g.f0, g.f1, g.f2, g.f3, cnt p + cnt n + g.f3, g.f5, o, o2⟩ : THist) :=
    ⟨by rcases hk with h | h <;> rw [h] <;> constructor <;> omega, by have := hs.1; have := hs.2; constructor <;> simp <;> omega, by rcases hz with h | h <;> constructor <;> simp <;> omega, ⟨h3, by simp; omega⟩, ⟨by simp; omega, ht⟩, h5,
      fun b hb => ⟨inS_i64 (b1 b hb).ins, u1 b hb⟩, fun b hb => ⟨inS_i64 (b2 b hb).ins, u2 b hb⟩⟩
  unfold f_hist_Make.f
  rw [e1, e2, sb, sb, if_neg (by simp), htot, sb, if_neg (by simp), check_limit _ hf hk hs hz b1 c1.up (by simp only; omega) (by simp only; omega) hlen, sb, if_pos (by simp)]; rfl
theorem bs_append {p q : THist} (h : Pair p q) : Bs p.f1 p.f2 (p.f6 ++ q.f6) ∧ Bs p.f1 p.f2 (p.f7 ++ q.f7) := by
  have a1 := h.vp.pos.len
  have a2 := h.vp.neg.len
  have a3 := h.vq.pos.len
  have a4 := h.vq.neg.len
  refine ⟨⟨by simp; omega, fun b hb => ?_⟩, ⟨by simp; omega, fun b hb => ?_⟩⟩
  · rcases List.mem_append.1 hb with hb | hb
    · have := h.vp.pos.ok b hb; exact ⟨this.ins, Int.le_of_lt this.pos, this.low⟩
    · have := h.bok (.inl hb); exact ⟨this.ins, Int.le_of_lt this.pos, this.low⟩
  · rcases List.mem_append.1 hb with hb | hb
    · have := h.vp.neg.ok b hb; exact ⟨this.ins, Int.le_of_lt this.pos, this.low⟩
    · have := h.bok (.inr hb); exact ⟨this.ins, Int.le_of_lt this.pos, this.low⟩
theorem u64_append {p q : THist} (h : Pair p q) : (∀ b ∈ p.f6 ++ q.f6, U64 b.f1) ∧ (∀ b ∈ p.f7 ++ q.f7, U64 b.f1) := by
  constructor
  · intro b hb
    rcases List.mem_append.1 hb with hb | hb
    · exact (h.fp.pos b hb).2
    · exact (h.fq.pos b hb).2
  · intro b hb
    rcases List.mem_append.1 hb with hb | hb
    · exact (h.fp.neg b hb).2
    · exact (h.fq.neg b hb).2
structure Sumd (p q r : THist) : Prop where
  valid : Valid r
  fits : Fits r
  kind : r.f0 = if q.f0 > p.f0 then q.f0 else p.f0
  schema : r.f1 = p.f1
  zeroAt : r.f2 = p.f2
  zero : r.f3 = p.f3 + q.f3
  count : r.f4 = p.f4 + q.f4
  sum : r.f5 = p.f5 + q.f5
  tpos : ∀ i, tot r.f6 i = tot p.f6 i + tot q.f6 i
  tneg : ∀ i, tot r.f7 i = tot p.f7 i + tot q.f7 i
theorem Add_cases (a b p q : THist) (s z : Int) (fa : Fits a) (fb : Fits b) (he : f_meld_Alike.f a b = some (p, q, 0)) (hr : f_pluvialref07_Alike.f a b = some (p, q)) (cp : Cut a s z p) (cq : Cut b s z q) (hp : Pair p q) :
    (¬ (I64 (a.f5 + b.f5) ∧ p.f4 + q.f4 < 18446744073709551616) ∧ f_meld_Add.f a b = some (h0, 5) ∧ f_pluvialref07_Add.f a b = some (h0, 5)) ∨
    (I64 (a.f5 + b.f5) ∧ p.f4 + q.f4 < 18446744073709551616 ∧ f_meld_Add.f a b = some (h0, 9) ∧ f_pluvialref07_Add.f a b = some (h0, 9) ∧ ∃ o o2, Canon o ∧ Canon o2 ∧ (∀ i, tot o i = tot p.f6 i + tot q.f6 i) ∧ (∀ i, tot o2 i = tot p.f7 i + tot q.f7 i) ∧ (512 < o.length ∨ 512 < o2.length)) ∨
    ∃ r, f_meld_Add.f a b = some (r, 0) ∧ f_pluvialref07_Add.f a b = some (r, 0) ∧ Sumd p q r := by
  have kp := cp.kind
  have kq := cq.kind
  have a1 := hp.vp.pos.len
  have a2 := hp.vp.neg.len
  have a3 := hp.vq.pos.len
  have a4 := hp.vq.neg.len
  have c1 := hp.vp.count
  have c2 := hp.vq.count
  have n1 := cnt_nonneg hp.vp.pos.canon.nn
  have n2 := cnt_nonneg hp.vp.neg.canon.nn
  have n3 := cnt_nonneg hp.vq.pos.canon.nn
  have n4 := cnt_nonneg hp.vq.neg.canon.nn
  have z1 := hp.fp.zero
  have z2 := hp.fq.zero
  have hsum : ([a.f5, b.f5] : List Int).sum = a.f5 + b.f5 := by simp
  have hAI := addint [a.f5, b.f5] (by simp) (by simp; exact ⟨fa.sum, fb.sum⟩)
  have hRI := raddint [a.f5, b.f5] (by simp) (by simp; exact ⟨fa.sum, fb.sum⟩)
  have hrz := ref_add [p.f3, q.f3] (by simp) (by simp; exact ⟨hp.fp.zero, hp.fq.zero⟩)
  have hrc := ref_add [p.f4, q.f4] (by simp) (by simp; exact ⟨hp.fp.count, hp.fq.count⟩)
  rw [hsum] at hAI hRI
  rw [show ([p.f3, q.f3] : List Int).sum = p.f3 + q.f3 by simp] at hrz
  rw [show ([p.f4, q.f4] : List Int).sum = p.f4 + q.f4 by simp] at hrc
  obtain ⟨B6, B7⟩ := bs_append hp
  obtain ⟨U6, U7⟩ := u64_append hp
  have ht : cnt (p.f6 ++ q.f6) + cnt (p.f7 ++ q.f7) + (p.f3 + q.f3) = p.f4 + q.f4 := by rw [cnt_append, cnt_append]; omega
  by_cases hI : I64 (a.f5 + b.f5)
  case neg =>
    refine .inl ⟨fun h => hI h.1, ?_, ?_⟩
    · unfold f_meld_Add.f; rw [hAI, if_neg hI, sb, he, sb]; rfl
    · unfold f_pluvialref07_Add.f; rw [hRI, if_neg hI, sb, hr, sb, hrz, hrc, sb, sb, if_pos (by simp), sb, if_pos rfl]; rfl
  rw [if_pos hI] at hAI hRI
  have hk : (if b.f0 > a.f0 then b.f0 else a.f0) = (if q.f0 > p.f0 then q.f0 else p.f0) := by rw [kp, kq]
  have hkk : (if b.f0 > a.f0 then b.f0 else a.f0) = 0 ∨ (if b.f0 > a.f0 then b.f0 else a.f0) = 1 := by
    rw [hk]; split; exact hp.vq.kind; exact hp.vp.kind
  by_cases hc : p.f4 + q.f4 < 18446744073709551616
  case neg =>
    refine .inl ⟨fun h => hc h.2, ?_, ?_⟩
    · unfold f_meld_Add.f
      rw [hAI, sb, he, sb, if_neg (by simp), num_add2 z1 z2, sb]
      by_cases hz : p.f3 + q.f3 < 18446744073709551616
      · rw [if_pos hz, if_neg (by simp)]
        dsimp only
        rw [chkB (by simp; omega), chkB (by omega), chkB (by simp; omega), chkB (by omega)]
        rw [make_over (⟨(if b.f0 > a.f0 then b.f0 else a.f0), p.f1, p.f2, p.f3 + q.f3, 0, a.f5 + b.f5, [], []⟩ : THist) _ _ B6 B7 U6 U7 ⟨by simp; omega, hz⟩ (by simp only; omega)]; rfl
      · rw [if_neg hz, if_pos (by simp)]; rfl
    · unfold f_pluvialref07_Add.f
      rw [hRI, sb, hr, sb, hrz, hrc, sb, sb, if_neg (by simp)]
      by_cases hz : p.f3 + q.f3 < 18446744073709551616
      · rw [if_pos hz, if_neg (by simp), if_neg hc, sb, if_pos (by simp)]; rfl
      · rw [if_neg hz, if_pos (by simp), sb, if_pos rfl]; rfl
  have hz : p.f3 + q.f3 < 18446744073709551616 := by omega
  rw [if_pos hc] at hrc
  rw [if_pos hz] at hrz
  obtain ⟨o6, t1, C6, T6, m6⟩ := tidy_ref (p.f6 ++ q.f6) (by simp; omega) (fun b hb => by
    rcases List.mem_append.1 hb with hb | hb
    · exact hp.vp.pos.canon.pos b hb
    · exact hp.vq.pos.canon.pos b hb) (by rw [cnt_append]; omega)
  obtain ⟨o7, t2, C7, T7, m7⟩ := tidy_ref (p.f7 ++ q.f7) (by simp; omega) (fun b hb => by
    rcases List.mem_append.1 hb with hb | hb
    · exact hp.vp.neg.canon.pos b hb
    · exact hp.vq.neg.canon.pos b hb) (by rw [cnt_append]; omega)
  have href : f_pluvialref07_Add.f a b = (if 512 < o6.length ∨ 512 < o7.length then some (h0, 9) else some ((⟨if q.f0 > p.f0 then q.f0 else p.f0, p.f1, p.f2, p.f3 + q.f3, p.f4 + q.f4, a.f5 + b.f5, o6, o7⟩ : THist), 0)) := by
    unfold f_pluvialref07_Add.f
    have hk2 : ((if (decide (q.f0 > p.f0)) = true then (some q.f0) else (some p.f0)) : Option (Int)) = some (if q.f0 > p.f0 then q.f0 else p.f0) := by
      by_cases h : q.f0 > p.f0
      · rw [if_pos (by simpa using h), if_pos h]
      · rw [if_neg (by simpa using h), if_neg h]
    rw [hRI, sb, hr, sb, hrz, hrc, sb, sb, if_neg (by simp), if_neg (by simp), sb, if_neg (by simp), hk2, sb, chkB (by simp; omega), chkB (by simp; omega), List.nil_append, t1, sb, chkB (by simp; omega), chkB (by simp; omega), List.nil_append, t2, sb]
    by_cases h : 512 < o6.length
    · rw [if_pos (by simp; omega), sb, if_pos rfl, if_pos (.inl h)]; rfl
    · rw [if_neg (by simp; omega), sb]
      by_cases h2 : 512 < o7.length
      · rw [if_pos (by simp; omega), if_pos (.inr h2)]; rfl
      · rw [if_neg (by simp; omega), if_neg (show ¬ (512 < o6.length ∨ 512 < o7.length) by omega)]
  have hprog : ∀ x, f_hist_Make.f (⟨(if b.f0 > a.f0 then b.f0 else a.f0), p.f1, p.f2, p.f3 + q.f3, 0, a.f5 + b.f5, [], []⟩ : THist) (p.f6 ++ q.f6) (p.f7 ++ q.f7) = some x → f_meld_Add.f a b = some x := by
    intro x hx
    unfold f_meld_Add.f
    rw [hAI, sb, he, sb, if_neg (by simp), num_add2 z1 z2, if_pos hz, sb, if_neg (by simp)]
    dsimp only
    rw [chkB (by simp; omega), chkB (by omega), chkB (by simp; omega), chkB (by omega), hx]; rfl
  by_cases hlim : 512 < o6.length ∨ 512 < o7.length
  · rw [if_pos hlim] at href
    refine .inr (.inl ⟨hI, hc, hprog _ (make_limit (⟨(if b.f0 > a.f0 then b.f0 else a.f0), p.f1, p.f2, p.f3 + q.f3, 0, a.f5 + b.f5, [], []⟩ : THist) _ _ hkk hp.vp.schema hp.vp.zero (by simp; omega) hI B6 B7 (by simp only; omega) ⟨o6, o7, C6, C7, T6, T7, hlim⟩), href, o6, o7, C6, C7, fun i => by rw [T6, tot_append], fun i => by rw [T7, tot_append], hlim⟩)
  · rw [if_neg hlim] at href
    obtain ⟨r, e, v, f, e0, e1, e2, e3, e5, x6, x7, e4⟩ := make_valid (⟨(if b.f0 > a.f0 then b.f0 else a.f0), p.f1, p.f2, p.f3 + q.f3, 0, a.f5 + b.f5, [], []⟩ : THist) (p.f6 ++ q.f6) (p.f7 ++ q.f7) hkk hp.vp.schema hp.vp.zero (by simp; omega) hI B6 B7 (by simp only; omega) (fun o ho hto => by
      rcases hto with hto | hto
      · rw [canon_unique ho C6 (fun i => (hto.1 i).trans (T6 i).symm)]; omega
      · rw [canon_unique ho C7 (fun i => (hto.1 i).trans (T7 i).symm)]; omega)
    refine .inr (.inr ⟨r, hprog _ e, ?_, v, f, e0.trans hk, e1, e2, e3, by rw [e4]; exact ht, by rw [e5, cp.sum, cq.sum], fun i => by rw [x6, tot_append], fun i => by rw [x7, tot_append]⟩)
    rw [href]
    have : (⟨if q.f0 > p.f0 then q.f0 else p.f0, p.f1, p.f2, p.f3 + q.f3, p.f4 + q.f4, a.f5 + b.f5, o6, o7⟩ : THist) = r :=
      hist_ext (by simp only; rw [e0, hk]) e1.symm e2.symm e3.symm (by simp only; rw [e4]; exact ht.symm) e5.symm (canon_unique C6 v.pos.canon (fun i => by rw [T6, x6])) (canon_unique C7 v.neg.canon (fun i => by rw [T7, x7]))
    rw [this]
end Go.Proofs.Yticdbkmekkbiiaa.PvGB
set_option linter.unusedVariables false
set_option linter.unusedSimpArgs false
namespace Go.Proofs.Yticdbkmekkbiiaa.PvGB
open Go Go.Pv Go.Pv.GS
open Classical
def Cov (a b : List TBucket) : Prop := ∀ i, tot b i ≤ tot a i
theorem less_l1 (a0 : List TBucket) (x : TBucket) (b o : List TBucket) (i : Int) : f_meld_less.l1 a0 x b o i () = some (match b with
    | [] => .inr ()
    | y :: _ => if y.f0 < x.f0 then .inl ([], false) else .inr ()) := by
  unfold f_meld_less.l1
  cases b with
  | nil => rw [if_neg (by simp), sb, if_neg (by simp)]
  | cons y b =>
    rw [if_pos (by simp), show at? (y :: b) 0 = some y from rfl, sb, sb]
    by_cases h : y.f0 < x.f0
    · rw [if_pos (by simpa using h)]; simp [h]
    · rw [if_neg (by simpa using h)]; simp [h]
structure Left (s z : Int) (o : List TBucket) : Prop where
  ok : ∀ b ∈ o, InS s b.f0 ∧ 0 ≤ b.f1 ∧ z ≤ (b.f0 - 1) * stp s
  u64 : ∀ b ∈ o, U64 b.f1
theorem less_l0 (s z : Int) (a : List TBucket) (hl : a.length < 1000000) : ∀ (suf pre b o : List TBucket) (i : Int), a = pre ++ suf → i = (pre.length : Int) → Canon suf → Canon b → (∀ y ∈ suf, BOk s z y ∧ U64 y.f1) → (∀ y ∈ b, U64 y.f1) → b.length < 1000000 → o.length ≤ pre.length →
    (∃ b' o', f_meld_less.l0 a b o i = some (.inr (b', o ++ o')) ∧ (b' = [] ↔ Cov suf b) ∧ (b' = [] → ∀ i, tot o' i = tot suf i - tot b i) ∧ Left s z o' ∧ o'.length ≤ suf.length) ∨
    (f_meld_less.l0 a b o i = some (.inl ([], false)) ∧ ¬ Cov suf b) := by
  intro suf
  induction suf with
  | nil =>
    intro pre b o i h1 hi _ hb _ _ _ _
    rw [List.append_nil] at h1; subst h1
    rw [f_meld_less.l0, if_neg (by simp [hi])]
    refine .inl ⟨b, [], by simp, ?_, fun h => by subst h; simp [tot], ⟨by simp, by simp⟩, by simp⟩
    constructor
    · intro h; subst h; intro i; simp [tot]
    · intro h
      cases b with
      | nil => rfl
      | cons y b =>
        have h1 := h y.f0
        rw [hb.tot_head] at h1
        have := hb.pos y (by simp)
        simp [tot] at h1; omega
  | cons x suf ih =>
    intro pre b o i h1 hi hs hb hxs hbs hbl ho
    have hlen : (a.length : Int) = pre.length + (suf.length + 1) := by rw [h1]; simp
    have hx := hxs x (by simp)
    have hxp := hs.pos x (by simp)
    have e1 : a = (pre ++ [x]) ++ suf := by simp [h1]
    have e2 : i + 1 = ((pre ++ [x]).length : Int) := by simp; omega
    have hsx := hs.tail
    have hxlow : ∀ i, i ≤ x.f0 → tot suf i = 0 := fun i hi => tot_zero (fun c hc => by have := (List.pairwise_cons.1 hs.up).1 c hc; omega)
    rw [f_meld_less.l0, if_pos (by simp; omega), at_mid h1 hi, sb, less_l1, sb]
    have keep : (∀ i, tot b i = if i = x.f0 then 0 else tot b i) → (((chk ((o.length + [(⟨x.f0, x.f1⟩ : TBucket)].length) * 16 ≤ 140737488355328)) >>= fun _ => f_meld_less.l0 a b (o ++ [(⟨x.f0, x.f1⟩ : TBucket)]) (IntKind.i64.wrap (i + 1))) = f_meld_less.l0 a b (o ++ [x]) (i + 1)) ∧
        ((∃ b' o', f_meld_less.l0 a b (o ++ [x]) (i + 1) = some (.inr (b', o ++ o')) ∧ (b' = [] ↔ Cov (x :: suf) b) ∧ (b' = [] → ∀ i, tot o' i = tot (x :: suf) i - tot b i) ∧ Left s z o' ∧ o'.length ≤ (x :: suf).length) ∨
          (f_meld_less.l0 a b (o ++ [x]) (i + 1) = some (.inl ([], false)) ∧ ¬ Cov (x :: suf) b)) := by
      intro hb0
      have hcov : Cov (x :: suf) b ↔ Cov suf b := by
        constructor
        · intro h i
          have := h i
          by_cases hi : i = x.f0
          · have h0 := hb0 i; rw [if_pos hi] at h0
            have := hxlow i (by omega); omega
          · rw [tot, if_neg (fun e => hi e.symm)] at this; omega
        · intro h i
          have := h i
          rw [tot]; split <;> omega
      refine ⟨by rw [chkB (by simp; omega), wrap64 (by omega) (by omega)], ?_⟩
      rcases ih (pre ++ [x]) b (o ++ [x]) (i + 1) e1 e2 hsx hb (fun y hy => hxs y (by simp [hy])) hbs hbl (by simp; omega) with ⟨b', o', g1, g2, g3, g4, g5⟩ | ⟨g1, g2⟩
      · refine .inl ⟨b', x :: o', by rw [g1]; simp, by rw [hcov]; exact g2, fun h i => by rw [tot, tot, g3 h i]; omega, ⟨fun y hy => ?_, fun y hy => ?_⟩, by simp; omega⟩
        · rcases List.mem_cons.1 hy with rfl | hy
          · exact ⟨hx.1.ins, Int.le_of_lt hx.1.pos, hx.1.low⟩
          · exact g4.ok y hy
        · rcases List.mem_cons.1 hy with rfl | hy
          · exact hx.2
          · exact g4.u64 y hy
      · exact .inr ⟨g1, by rw [hcov]; exact g2⟩
    cases b with
    | nil =>
      obtain ⟨k1, k2⟩ := keep (fun i => by simp [tot])
      simp only []
      rw [if_neg (by simp), sb, if_neg (by simp), sb]
      simp only []
      rw [k1]; exact k2
    | cons y b =>
      have hyp := hb.pos y (by simp)
      simp only []
      by_cases h : y.f0 < x.f0
      · rw [if_pos h]
        refine .inr ⟨rfl, fun hc => ?_⟩
        have := hc y.f0
        rw [hb.tot_head, hs.tot_low h] at this; omega
      rw [if_neg h]
      simp only []
      rw [if_pos (by simp), show at? (y :: b) 0 = some y from rfl, sb, sb]
      by_cases he : y.f0 = x.f0
      case neg =>
        obtain ⟨k1, k2⟩ := keep (fun i => by
          by_cases hi : i = x.f0
          · rw [if_pos hi, hb.tot_low (by omega)]
          · rw [if_neg hi])
        rw [if_neg (by simpa using he), sb]
        simp only []
        rw [k1]; exact k2
      rw [if_pos (by simpa using he), sb]
      by_cases hgt : y.f1 > x.f1
      · rw [if_pos (by simpa using hgt), sb]
        refine .inr ⟨rfl, fun hc => ?_⟩
        have h2 := hc y.f0
        rw [hb.tot_head] at h2
        rw [he, hs.tot_head] at h2; omega
      rw [if_neg (by simpa using hgt), chkB (by simp; omega), sb]
      simp only []
      have hdrop : (List.drop (Int.toNat (1 : Int)) (y :: b)).take (Int.toNat (((y :: b).length : Int)) - Int.toNat (1 : Int)) = b := by
        simp
      rw [hdrop, wrapU (by omega) (by have := hx.2; omega), chkB (by simp; omega), wrap64 (by omega) (by omega)]
      have hblow : ∀ i, i ≤ y.f0 → tot b i = 0 := fun i hi => tot_zero (fun c hc => by have := (List.pairwise_cons.1 hb.up).1 c hc; omega)
      have hcov : Cov (x :: suf) (y :: b) ↔ Cov suf b := by
        constructor
        · intro h i
          have := h i
          simp only [tot] at this
          by_cases hi : i = x.f0
          · rw [hblow i (by omega), hxlow i (by omega)]; omega
          · rw [if_neg (by omega), if_neg (fun e => hi e.symm)] at this; omega
        · intro h i
          have := h i
          simp only [tot]
          by_cases hi : i = x.f0
          · rw [if_pos (by omega), if_pos hi.symm, hblow i (by omega), hxlow i (by omega)]; omega
          · rw [if_neg (by omega), if_neg (fun e => hi e.symm)]; omega
      rcases ih (pre ++ [x]) b (o ++ [⟨x.f0, x.f1 - y.f1⟩]) (i + 1) e1 e2 hsx hb.tail (fun y hy => hxs y (by simp [hy])) (fun c hc => hbs c (by simp [hc])) (by simp at hbl; omega) (by simp; omega) with ⟨b', o', g1, g2, g3, g4, g5⟩ | ⟨g1, g2⟩
      · refine .inl ⟨b', ⟨x.f0, x.f1 - y.f1⟩ :: o', by rw [g1]; simp, by rw [hcov]; exact g2, fun h i => ?_, ⟨fun c hc => ?_, fun c hc => ?_⟩, by simp; omega⟩
        · simp only [tot]
          rw [g3 h i]
          by_cases hi : x.f0 = i
          · rw [if_pos hi, if_pos hi, if_pos (by omega)]; omega
          · rw [if_neg hi, if_neg hi, if_neg (by omega)]; omega
        · rcases List.mem_cons.1 hc with rfl | hc
          · exact ⟨hx.1.ins, by simp; omega, hx.1.low⟩
          · exact g4.ok c hc
        · rcases List.mem_cons.1 hc with rfl | hc
          · have := hx.2; constructor <;> simp <;> omega
          · exact g4.u64 c hc
      · exact .inr ⟨g1, by rw [hcov]; exact g2⟩
theorem less_eq (s z : Int) (a b : List TBucket) (ha : Canon a) (hb : Canon b) (hxs : ∀ y ∈ a, BOk s z y ∧ U64 y.f1) (hbs : ∀ y ∈ b, U64 y.f1) (hl : a.length < 1000000) (hbl : b.length < 1000000) :
    ∃ o ok, f_meld_less.f a b = some (o, ok) ∧ (ok = true ↔ Cov a b) ∧ (ok = true → ∀ i, tot o i = tot a i - tot b i) ∧ (ok = true → Left s z o) ∧ o.length ≤ a.length := by
  unfold f_meld_less.f
  rcases less_l0 s z a hl a [] b [] 0 rfl rfl ha hb hxs hbs hbl (Nat.le_refl _) with ⟨b', o', g1, g2, g3, g4, g5⟩ | ⟨g1, g2⟩
  · rw [g1, sb]
    have hok : ((b'.length : Int) == (0 : Int)) = true ↔ b' = [] := by simp
    exact ⟨o', _, by simp, by rw [hok, g2], fun h => g3 (hok.1 h), fun _ => g4, g5⟩
  · rw [g1, sb]
    exact ⟨[], false, rfl, by simp [g2], by simp, by simp, by simp⟩
theorem rat_l0 (l : List TBucket) (k : Int) (hl : l.length < 1000000) : ∀ (suf pre : List TBucket) (i : Int), l = pre ++ suf → i = (pre.length : Int) → Canon suf → ∃ r, f_pluvialref07_At.l0 l k i = some r ∧ (match r with | .inl v => v = tot suf k | .inr _ => tot suf k = 0) := by
  intro suf
  induction suf with
  | nil => intro pre i h1 hi _; rw [List.append_nil] at h1; subst h1; rw [f_pluvialref07_At.l0, if_neg (by simp [hi])]; exact ⟨_, rfl, rfl⟩
  | cons x suf ih =>
    intro pre i h1 hi hc
    have hlen : (l.length : Int) = pre.length + (suf.length + 1) := by rw [h1]; simp
    rw [f_pluvialref07_At.l0, if_pos (by simp; omega), at_mid h1 hi, sb]
    by_cases h : x.f0 = k
    · subst h
      rw [if_pos (by simp)]
      exact ⟨_, rfl, hc.tot_head.symm⟩
    · rw [if_neg (by simpa using h), wrap64 (by omega) (by omega)]
      obtain ⟨r, e, hr⟩ := ih (pre ++ [x]) (i + 1) (by simp [h1]) (by simp; omega) hc.tail
      refine ⟨r, e, ?_⟩
      cases r with
      | inl v => simp only [tot] at hr ⊢; rw [if_neg h]; omega
      | inr u => simp only [tot] at hr ⊢; rw [if_neg h]; omega
theorem rat_eq (l : List TBucket) (k : Int) (hl : l.length < 1000000) (hc : Canon l) : f_pluvialref07_At.f l k = some (tot l k) := by
  unfold f_pluvialref07_At.f
  obtain ⟨r, e, hr⟩ := rat_l0 l k hl l [] 0 rfl rfl hc
  rw [e, sb]
  cases r with
  | inl v => simp only [] at hr ⊢; rw [hr]
  | inr u => simp only [] at hr ⊢; rw [hr]
theorem off_l0 (a b : List TBucket) (ha : Canon a) (hl : a.length < 1000000) (hbl : b.length < 1000000) : ∀ (suf pre : List TBucket) (i : Int), b = pre ++ suf → i = (pre.length : Int) →
    f_pluvialref07_off.l0 a b i = some (if ∀ y ∈ suf, y.f1 ≤ tot a y.f0 then .inr () else .inl ([], false)) := by
  intro suf
  induction suf with
  | nil => intro pre i h1 hi; rw [List.append_nil] at h1; subst h1; rw [f_pluvialref07_off.l0, if_neg (by simp [hi]), if_pos (by simp)]
  | cons x suf ih =>
    intro pre i h1 hi
    have hlen : (b.length : Int) = pre.length + (suf.length + 1) := by rw [h1]; simp
    rw [f_pluvialref07_off.l0, if_pos (by simp; omega), at_mid h1 hi, sb, rat_eq a _ hl ha, sb]
    by_cases h : tot a x.f0 < x.f1
    · rw [if_pos (by simpa using h), if_neg (fun q => by have := q x (by simp); omega)]
    · rw [if_neg (by simpa using h), wrap64 (by omega) (by omega), ih (pre ++ [x]) (i + 1) (by simp [h1]) (by simp; omega)]
      by_cases h2 : ∀ y ∈ suf, y.f1 ≤ tot a y.f0
      · rw [if_pos h2, if_pos (fun y hy => by
          rcases List.mem_cons.1 hy with rfl | hy
          · omega
          · exact h2 y hy)]
      · rw [if_neg h2, if_neg (fun q => h2 (fun y hy => q y (by simp [hy])))]
theorem cov_iff {a b : List TBucket} (ha : Canon a) (hb : Canon b) : Cov a b ↔ ∀ y ∈ b, y.f1 ≤ tot a y.f0 := by
  constructor
  · intro h y hy; have := h y.f0; rw [hb.tot_of hy] at this; exact this
  · intro h i
    by_cases hc : ∃ y ∈ b, y.f0 = i
    · obtain ⟨y, hy, rfl⟩ := hc; rw [hb.tot_of hy]; exact h y hy
    · rw [tot_zero (fun y hy e => hc ⟨y, hy, e⟩)]; exact tot_nonneg ha.nn i
theorem off_l1 (a b : List TBucket) (hb : Canon b) (hl : a.length < 1000000) (hbl : b.length < 1000000) (hc : Cov a b) (hau : ∀ y ∈ a, U64 y.f1) (ha : Canon a) : ∀ (suf pre o : List TBucket) (i : Int), a = pre ++ suf → i = (pre.length : Int) → Canon o → (∀ x ∈ o, ∃ y ∈ pre, y.f0 = x.f0) → (∀ y ∈ pre, tot o y.f0 = tot a y.f0 - tot b y.f0) → o.length ≤ pre.length →
    ∃ o', f_pluvialref07_off.l1 a b o i = some o' ∧ Canon o' ∧ (∀ x ∈ o', ∃ y ∈ a, y.f0 = x.f0) ∧ (∀ y ∈ a, tot o' y.f0 = tot a y.f0 - tot b y.f0) := by
  intro suf
  induction suf with
  | nil =>
    intro pre o i h1 hi ho hos hot _
    rw [List.append_nil] at h1; subst h1
    rw [f_pluvialref07_off.l1, if_neg (by simp [hi])]
    exact ⟨o, rfl, ho, hos, hot⟩
  | cons x suf ih =>
    intro pre o i h1 hi ho hos hot hol
    have hlen : (a.length : Int) = pre.length + (suf.length + 1) := by rw [h1]; simp
    have e1 : a = (pre ++ [x]) ++ suf := by simp [h1]
    have e2 : i + 1 = ((pre ++ [x]).length : Int) := by simp; omega
    have hxa : x ∈ a := by rw [h1]; simp
    have htx : tot a x.f0 = x.f1 := ha.tot_of hxa
    have hxu := hau x hxa
    have hcx := hc x.f0
    have hbn := tot_nonneg hb.nn x.f0
    have hpre : ∀ y ∈ pre, y.f0 < x.f0 := fun y hy => by
      have := ha.up; rw [h1] at this
      exact (List.pairwise_append.1 this).2.2 y hy x (by simp)
    have hox : ∀ c ∈ o, c.f0 < x.f0 := fun c hc => by obtain ⟨y, hy, e⟩ := hos c hc; have := hpre y hy; omega
    have ho0 : tot o x.f0 = 0 := tot_zero (fun c hc => by have := hox c hc; omega)
    rw [f_pluvialref07_off.l1, if_pos (by simp; omega), at_mid h1 hi, sb, rat_eq b _ hbl hb, sb, wrapU (by omega) (by omega), wrap64 (by omega) (by omega)]
    by_cases hpos : x.f1 - tot b x.f0 > 0
    · rw [if_pos (by simpa using hpos), chkB (by simp; omega), sb]
      refine ih (pre ++ [x]) _ (i + 1) e1 e2 ⟨List.pairwise_append.2 ⟨ho.up, List.pairwise_singleton _ _, fun c hc y hy => by simp at hy; subst hy; exact hox c hc⟩, fun c hc => ?_⟩ (fun c hc => ?_) (fun y hy => ?_) (by simp; omega)
      · rcases List.mem_append.1 hc with hc | hc
        · exact ho.pos c hc
        · simp at hc; subst hc; simpa using hpos
      · rcases List.mem_append.1 hc with hc | hc
        · obtain ⟨y, hy, e⟩ := hos c hc; exact ⟨y, by simp [hy], e⟩
        · simp at hc; subst hc; exact ⟨x, by simp, rfl⟩
      · rw [tot_append, tot_one]
        rcases List.mem_append.1 hy with hy | hy
        · have := hpre y hy; rw [if_neg (by simp only; omega), hot y hy]; omega
        · simp at hy; subst hy; rw [if_pos rfl, ho0]; simp only; omega
    · rw [if_neg (by simpa using hpos), sb]
      refine ih (pre ++ [x]) o (i + 1) e1 e2 ho (fun c hc => by obtain ⟨y, hy, e⟩ := hos c hc; exact ⟨y, by simp [hy], e⟩) (fun y hy => ?_) (by simp; omega)
      rcases List.mem_append.1 hy with hy | hy
      · exact hot y hy
      · simp at hy; subst hy; rw [ho0]; omega
theorem off_eq (a b : List TBucket) (ha : Canon a) (hb : Canon b) (hau : ∀ y ∈ a, U64 y.f1) (hl : a.length < 1000000) (hbl : b.length < 1000000) :
    ∃ o ok, f_pluvialref07_off.f a b = some (o, ok) ∧ (ok = true ↔ Cov a b) ∧ (ok = true → Canon o ∧ ∀ i, tot o i = tot a i - tot b i) := by
  unfold f_pluvialref07_off.f
  rw [off_l0 a b ha hl hbl b [] 0 rfl rfl, sb]
  by_cases h : ∀ y ∈ b, y.f1 ≤ tot a y.f0
  · rw [if_pos h]
    have hc := (cov_iff ha hb).2 h
    obtain ⟨o, e, h1, h2, h3⟩ := off_l1 a b hb hl hbl hc hau ha a [] [] 0 rfl rfl ⟨List.Pairwise.nil, by simp⟩ (by simp) (by simp) (by simp)
    simp only []
    rw [e, sb]
    refine ⟨o, true, rfl, by simp [hc], fun _ => ⟨h1, fun i => ?_⟩⟩
    by_cases hi : ∃ y ∈ a, y.f0 = i
    · obtain ⟨y, hy, rfl⟩ := hi; exact h3 y hy
    · have ha0 := tot_zero (l := a) (i := i) (fun y hy e => hi ⟨y, hy, e⟩)
      have hb0 := hc i
      have := tot_nonneg hb.nn i
      rw [tot_zero (fun x hx e => by obtain ⟨y, hy, e2⟩ := h2 x hx; exact hi ⟨y, hy, e2.trans e⟩)]; omega
  · rw [if_neg h]
    exact ⟨[], false, rfl, by simp; rw [cov_iff ha hb]; exact h, by simp⟩
structure Lessd (p q r : THist) : Prop where
  valid : Valid r
  fits : Fits r
  kind : r.f0 = p.f0
  schema : r.f1 = p.f1
  zeroAt : r.f2 = p.f2
  zero : r.f3 = p.f3 - q.f3
  count : r.f4 = p.f4 - q.f4
  sum : r.f5 = p.f5 - q.f5
  tpos : ∀ i, tot r.f6 i = tot p.f6 i - tot q.f6 i
  tneg : ∀ i, tot r.f7 i = tot p.f7 i - tot q.f7 i
def Covs (p q : THist) : Prop := Cov p.f6 q.f6 ∧ Cov p.f7 q.f7 ∧ q.f3 ≤ p.f3
theorem neg_sum {a b : Int} (ha : I64 a) (hb : I64 b) : ((((if (b == (-9223372036854775808)) = true then (some (IntKind.i64.wrap (b + (1 : Int)))) else (some b)) : Option (Int)) >>= fun x2707 => ((if (b == (-9223372036854775808)) = true then ((chk (([a, IntKind.i64.wrap (0 - x2707)].length + [(1 : Int)].length) * 8 ≤ 140737488355328)) >>= fun _ => some ([a, IntKind.i64.wrap (0 - x2707)] ++ [1])) else (some [a, IntKind.i64.wrap (0 - x2707)])) : Option (List Int)) >>= fun x2711 => f_pluvialref01_AddInt.f x2711) : Option (Int × Int)) = some (if I64 (a - b) then (a - b, 0) else (0, 5)) := by
  by_cases h : b = -9223372036854775808
  · rw [if_pos (by simpa using h), sb, if_pos (by simpa using h), chkB (by simp), sb, raddint _ (by simp) (by
      rw [wrap64 (n := b + 1) (by omega) (by omega), wrap64 (n := 0 - (b + 1)) (by omega) (by omega)]
      intro x hx
      simp at hx
      rcases hx with rfl | rfl | rfl
      · exact ha
      · constructor <;> omega
      · constructor <;> omega)]
    rw [wrap64 (n := b + 1) (by omega) (by omega), wrap64 (n := 0 - (b + 1)) (by omega) (by omega)]
    have e : ([a, 0 - (b + 1)] ++ [1] : List Int).sum = a - b := by simp; omega
    rw [e]
  · have hb1 := hb.1
    have hb2 := hb.2
    rw [if_neg (by simpa using h), sb, if_neg (by simpa using h), sb, wrap64 (by omega) (by omega), raddint _ (by simp) (by
      intro x hx
      simp at hx
      rcases hx with rfl | rfl
      · exact ha
      · constructor <;> omega)]
    have e : ([a, 0 - b] : List Int).sum = a - b := by simp; omega
    rw [e]
theorem Sub_cases (a b p q : THist) (s z : Int) (fa : Fits a) (fb : Fits b) (he : f_meld_Alike.f a b = some (p, q, 0)) (hr : f_pluvialref07_Alike.f a b = some (p, q)) (cp : Cut a s z p) (cq : Cut b s z q) (hp : Pair p q) :
    (¬ Covs p q ∧ f_meld_Sub.f a b = some (h0, 21) ∧ f_pluvialref07_Sub.f a b = some (h0, 21)) ∨
    (Covs p q ∧ ¬ I64 (a.f5 - b.f5) ∧ f_meld_Sub.f a b = some (h0, 5) ∧ f_pluvialref07_Sub.f a b = some (h0, 5)) ∨
    (Covs p q ∧ ∃ r, f_meld_Sub.f a b = some (r, 0) ∧ f_pluvialref07_Sub.f a b = some (r, 0) ∧ Lessd p q r) := by
  have a1 := hp.vp.pos.len
  have a2 := hp.vp.neg.len
  have a3 := hp.vq.pos.len
  have a4 := hp.vq.neg.len
  have c1 := hp.vp.count
  have c2 := hp.vq.count
  have hU := hp.fp.count
  have z1 := hp.fp.zero
  have z2 := hp.fq.zero
  have hSI := subint fa.sum fb.sum
  have hNS := neg_sum fa.sum fb.sum
  obtain ⟨o6, k6, e6, i6, t6, L6, m6⟩ := less_eq p.f1 p.f2 p.f6 q.f6 hp.vp.pos.canon hp.vq.pos.canon (fun y hy => ⟨hp.vp.pos.ok y hy, (hp.fp.pos y hy).2⟩) (fun y hy => (hp.fq.pos y hy).2) (by omega) (by omega)
  obtain ⟨o7, k7, e7, i7, t7, L7, m7⟩ := less_eq p.f1 p.f2 p.f7 q.f7 hp.vp.neg.canon hp.vq.neg.canon (fun y hy => ⟨hp.vp.neg.ok y hy, (hp.fp.neg y hy).2⟩) (fun y hy => (hp.fq.neg y hy).2) (by omega) (by omega)
  obtain ⟨w6, j6, d6, u6, v6⟩ := off_eq p.f6 q.f6 hp.vp.pos.canon hp.vq.pos.canon (fun y hy => (hp.fp.pos y hy).2) (by omega) (by omega)
  obtain ⟨w7, j7, d7, u7, v7⟩ := off_eq p.f7 q.f7 hp.vp.neg.canon hp.vq.neg.canon (fun y hy => (hp.fp.neg y hy).2) (by omega) (by omega)
  have hj6 : j6 = k6 := by rw [Bool.eq_iff_iff, u6, i6]
  have hj7 : j7 = k7 := by rw [Bool.eq_iff_iff, u7, i7]
  subst hj6; subst hj7
  have hzs := num_sub z1 z2
  have hcond : ((if (!j6) = true then (some true) else (if (!j7) = true then (some true) else (some (((if q.f3 ≤ p.f3 then ((p.f3 - q.f3, 0) : Int × Int) else (0, 5)).2 != (0 : Int)))))) : Option (Bool)) = some (!decide (Covs p q)) := by
    unfold Covs
    cases h6 : j6 with
    | false => have : ¬ Cov p.f6 q.f6 := by rw [← i6, h6]; simp
               simp [this]
    | true =>
      have h6c : Cov p.f6 q.f6 := i6.1 h6
      cases h7 : j7 with
      | false => have : ¬ Cov p.f7 q.f7 := by rw [← i7, h7]; simp
                 simp [this]
      | true =>
        have h7c : Cov p.f7 q.f7 := i7.1 h7
        by_cases h3 : q.f3 ≤ p.f3 <;> simp [h6c, h7c, h3]
  have rcond : ((if (!j6) = true then (some true) else (if (!j7) = true then (some true) else (some (decide (p.f3 < q.f3))))) : Option (Bool)) = some (!decide (Covs p q)) := by
    unfold Covs
    cases h6 : j6 with
    | false => have : ¬ Cov p.f6 q.f6 := by rw [← i6, h6]; simp
               simp [this]
    | true =>
      have h6c : Cov p.f6 q.f6 := i6.1 h6
      cases h7 : j7 with
      | false => have : ¬ Cov p.f7 q.f7 := by rw [← i7, h7]; simp
                 simp [this]
      | true =>
        have h7c : Cov p.f7 q.f7 := i7.1 h7
        by_cases h3 : q.f3 ≤ p.f3 <;> simp [h6c, h7c, h3]; omega
  have hpre : f_pluvialref07_Sub.f a b = (fun (t2714 : Int × Int) => (f_pluvialref07_Alike.f a b) >>= fun t2718 => (f_pluvialref07_off.f ((t2718.1).f6) ((t2718.2).f6)) >>= fun t2805 => (f_pluvialref07_off.f ((t2718.1).f7) ((t2718.2).f7)) >>= fun t2809 => ((if (!t2805.2) = true then (some true) else (if (!t2809.2) = true then (some true) else (some (decide (((t2718.1).f3) < ((t2718.2).f3)))))) : Option (Bool)) >>= fun x2815 => if x2815 = true then (some ((⟨0, 0, 0, 0, 0, 0, [], []⟩ : THist), (21 : Int))) else (if (t2714.2 != (0 : Int)) = true then (some ((⟨0, 0, 0, 0, 0, 0, [], []⟩ : THist), 5)) else (some ((⟨(t2718.1).f0, (t2718.1).f1, (t2718.1).f2, IntKind.u64.wrap (((t2718.1).f3) - ((t2718.2).f3)), IntKind.u64.wrap (((t2718.1).f4) - ((t2718.2).f4)), t2714.1, t2805.1, t2809.1⟩ : THist), 0)))) (if I64 (a.f5 - b.f5) then (a.f5 - b.f5, 0) else (0, 5)) := by
    unfold f_pluvialref07_Sub.f
    by_cases h : b.f5 = -9223372036854775808
    · rw [if_pos (by simpa using h), sb, if_pos (by simpa using h), chkB (by simp), sb] at hNS
      rw [if_pos (by simpa using h), sb, if_pos (by simpa using h), chkB (by simp), sb, hNS, sb]
    · rw [if_neg (by simpa using h), sb, if_neg (by simpa using h), sb] at hNS
      rw [if_neg (by simpa using h), sb, if_neg (by simpa using h), sb, hNS, sb]
  by_cases hcv : Covs p q
  case neg =>
    refine .inl ⟨hcv, ?_, ?_⟩
    · unfold f_meld_Sub.f
      rw [hSI, sb, he, sb, if_neg (by simp)]
      dsimp only
      rw [e6, e7, hzs, sb, sb, sb, hcond, sb, if_pos (by simp [hcv])]; rfl
    · rw [hpre]; simp only []; rw [hr, sb]
      dsimp only
      rw [d6, d7, sb, sb, rcond, sb, if_pos (by simp [hcv])]; rfl
  by_cases hI : I64 (a.f5 - b.f5)
  case neg =>
    refine .inr (.inl ⟨hcv, hI, ?_, ?_⟩)
    · unfold f_meld_Sub.f
      rw [hSI, sb, he, sb, if_neg (by simp)]
      dsimp only
      rw [e6, e7, hzs, sb, sb, sb, hcond, sb, if_neg (by simp [hcv]), if_neg hI, if_pos (by simp)]; rfl
    · rw [hpre]; simp only []; rw [hr, sb]
      dsimp only
      rw [d6, d7, sb, sb, rcond, sb, if_neg (by simp [hcv]), if_neg hI, if_pos (by simp)]; rfl
  obtain ⟨h6, h7, h3⟩ := hcv
  have T6 := t6 (i6.2 h6)
  have T7 := t7 (i7.2 h7)
  have M6 := L6 (i6.2 h6)
  have M7 := L7 (i7.2 h7)
  have q6 : cnt o6 = cnt p.f6 - cnt q.f6 := by
    have h := cnt_congr (l := o6) (l' := p.f6 ++ negl q.f6) (fun i => by rw [T6, tot_append, tot_negl]; omega)
    rw [h, cnt_append, cnt_wsum (negl q.f6), wsum_negl, ← cnt_wsum]; omega
  have q7 : cnt o7 = cnt p.f7 - cnt q.f7 := by
    have h := cnt_congr (l := o7) (l' := p.f7 ++ negl q.f7) (fun i => by rw [T7, tot_append, tot_negl]; omega)
    rw [h, cnt_append, cnt_wsum (negl q.f7), wsum_negl, ← cnt_wsum]; omega
  have n6 := cnt_nonneg (l := o6) (fun b hb => (M6.ok b hb).2.1)
  have n7 := cnt_nonneg (l := o7) (fun b hb => (M7.ok b hb).2.1)
  have hn1 := cnt_nonneg hp.vq.pos.canon.nn
  have hn2 := cnt_nonneg hp.vq.neg.canon.nn
  obtain ⟨r, e, v, f, e0, e1, e2, e3, e5, x6, x7, e4⟩ := make_valid (⟨p.f0, p.f1, p.f2, p.f3 - q.f3, p.f4, a.f5 - b.f5, p.f6, p.f7⟩ : THist) o6 o7 hp.vp.kind hp.vp.schema hp.vp.zero (by simp only; omega) hI ⟨by omega, M6.ok⟩ ⟨by omega, M7.ok⟩ (by simp only; omega) (fun o ho hto => by
    rcases hto with hto | hto
    · exact Nat.le_trans hto.2 (by omega)
    · exact Nat.le_trans hto.2 (by omega))
  refine .inr (.inr ⟨⟨h6, h7, h3⟩, r, ?_, ?_, ⟨v, f, e0, e1, e2, e3, by rw [e4, q6, q7]; simp only; omega, by rw [e5, cp.sum, cq.sum], fun i => by rw [x6, T6], fun i => by rw [x7, T7]⟩⟩)
  · unfold f_meld_Sub.f
    rw [hSI, sb, he, sb, if_neg (by simp)]
    dsimp only
    rw [e6, e7, hzs, sb, sb, sb, hcond, sb, if_neg (by simp [Covs, h6, h7, h3]), if_pos hI, if_neg (by simp), if_pos h3]
    dsimp only
    rw [e]; rfl
  · obtain ⟨W6, V6⟩ := v6 (u6.2 h6)
    obtain ⟨W7, V7⟩ := v7 (u7.2 h7)
    rw [hpre]; simp only []; rw [hr, sb]
    dsimp only
    rw [d6, d7, sb, sb, rcond, sb, if_neg (by simp [Covs, h6, h7, h3]), if_pos hI, if_neg (by simp), wrapU (n := p.f3 - q.f3) (by omega) (by omega), wrapU (n := p.f4 - q.f4) (by omega) (by omega)]
    have : (⟨p.f0, p.f1, p.f2, p.f3 - q.f3, p.f4 - q.f4, a.f5 - b.f5, w6, w7⟩ : THist) = r :=
      hist_ext e0.symm e1.symm e2.symm e3.symm (by rw [e4, q6, q7]; simp only; omega) e5.symm (canon_unique W6 v.pos.canon (fun i => by rw [V6, x6, T6])) (canon_unique W7 v.neg.canon (fun i => by rw [V7, x7, T7]))
    rw [← this]
end Go.Proofs.Yticdbkmekkbiiaa.PvGB
set_option linter.unusedVariables false
set_option linter.unusedSimpArgs false
namespace Go.Proofs.Yticdbkmekkbiiaa.PvGB
open Go Go.Pv Go.Pv.GS
open Classical
theorem right7_two (a b : THist) (fa : RHist a) (fb : RHist b) : f_pluviallaw07_right.f [a, b] = some (decide (Right7 a ∧ Right7 b)) := by
  rw [right7 [a, b] (by simp) (by simpa using ⟨fa, fb⟩)]
  congr 1
  rw [decide_eq_decide]; simp
theorem hist_small {r : THist} (h : r = h0 ∨ Valid r) : r.f6.length < 1000000000 ∧ r.f7.length < 1000000000 := by
  rcases h with rfl | h
  · simp [h0]
  · have := h.pos.len; have := h.neg.len; omega
theorem adds_true (a b : THist) (fa : RHist a) (fb : RHist b) : f_pluviallaw07_MeldAdds.f a b = some true := by
  unfold f_pluviallaw07_MeldAdds.f
  rw [right7_two a b fa fb, awake07, sb]
  by_cases hr : Right7 a ∧ Right7 b
  case neg => rw [if_pos (by rw [decide_eq_false hr]; rfl), sb]
  rw [if_neg (by rw [decide_eq_true hr]; decide)]
  have va := hr.1.valid
  have vb := hr.2.valid
  have ffa := fits_of fa
  have ffb := fits_of fb
  obtain ⟨p, q, s, z, e, r, cp, cq, hp⟩ := Alike_pair a b va ffa vb ffb
  obtain ⟨x, ex, A1, A2, vx⟩ : ∃ x ex, f_meld_Add.f a b = some (x, ex) ∧ f_pluvialref07_Add.f a b = some (x, ex) ∧ (x = h0 ∨ Valid x) := by
    rcases Add_cases a b p q s z ffa ffb e r cp cq hp with ⟨_, h1, h2⟩ | ⟨_, _, h1, h2, _⟩ | ⟨r, h1, h2, h3⟩
    · exact ⟨_, _, h1, h2, .inl rfl⟩
    · exact ⟨_, _, h1, h2, .inl rfl⟩
    · exact ⟨_, _, h1, h2, .inr h3.valid⟩
  obtain ⟨y, ey, S1, S2, vy⟩ : ∃ x ex, f_meld_Sub.f a b = some (x, ex) ∧ f_pluvialref07_Sub.f a b = some (x, ex) ∧ (x = h0 ∨ Valid x) := by
    rcases Sub_cases a b p q s z ffa ffb e r cp cq hp with ⟨_, h1, h2⟩ | ⟨_, _, h1, h2⟩ | ⟨_, r, h1, h2, h3⟩
    · exact ⟨_, _, h1, h2, .inl rfl⟩
    · exact ⟨_, _, h1, h2, .inl rfl⟩
    · exact ⟨_, _, h1, h2, .inr h3.valid⟩
  have lx := hist_small vx
  have ly := hist_small vy
  rw [A1, A2, sb, sb, if_neg (by simp), rSame_self x lx.1 lx.2, sb, sb, if_neg (by simp), S1, S2, sb, sb, sb, if_pos rfl, if_pos (by simp), rSame_self y ly.1 ly.2, sb, if_pos rfl]
  unfold f_meld_Reset.f
  rw [S1, sb, sb, sb]
  simp
theorem meldAdds_R (a b : THist) (ha : RHist a) (hb : RHist b) : f_pluviallaw07_MeldAdds.f a b = some true := adds_true a b ha hb
end Go.Proofs.Yticdbkmekkbiiaa.PvGB
