import Derived.Test.YticdbkmekkbiiaaPlMeld2B3
set_option linter.unusedVariables false
set_option linter.unusedSimpArgs false
/-! MeldKeeps. -/
namespace Go.Proofs.Yticdbkmekkbiiaa.PvGB3
open Go Go.Pv Go.Pv.GS
open Classical

theorem awake07 : f_pluviallaw07_awake.f = some true := by cbv

structure Right7 (h : THist) : Prop where
  pos : h.f6.length ≤ 100
  neg : h.f7.length ≤ 100
  valid : Valid h

theorem right7_one (h : THist) (hf : RHist h) : ∃ c : Bool, ((if (decide ((h.f6.length : Int) > (100 : Int))) = true then (some true) else (if (decide ((h.f7.length : Int) > (100 : Int))) = true then (some true) else ((f_pluvialref05_Check.f h) >>= fun t244 => some (t244 != (0 : Int))))) : Option (Bool)) = some c ∧ (c = false ↔ Right7 h) := by
  by_cases h1 : h.f6.length > 100
  · rw [if_pos (by simp; omega)]
    exact ⟨_, rfl, by simp; intro h; have := h.pos; omega⟩
  rw [if_neg (by simp; omega)]
  by_cases h2 : h.f7.length > 100
  · rw [if_pos (by simp; omega)]
    exact ⟨_, rfl, by simp; intro h; have := h.neg; omega⟩
  rw [if_neg (by simp; omega)]
  obtain ⟨r, e, i⟩ := ref_check_iff h (fits_of hf) (by omega) (by omega)
  rw [e, sb]
  refine ⟨_, rfl, ?_⟩
  rw [bne_eq_false_iff_eq, i]
  exact ⟨fun h => ⟨by omega, by omega, h⟩, fun h => h.valid⟩

theorem right7_l0 (l : List THist) (hl : l.length < 1000000000000) : ∀ (suf pre : List THist) (i : Int), l = pre ++ suf → i = (pre.length : Int) → (∀ h ∈ suf, RHist h) → ∃ r, f_pluviallaw07_right.l0 l i = some r ∧ (r = .inr () ∧ (∀ h ∈ suf, Right7 h) ∨ r = .inl false ∧ ¬ ∀ h ∈ suf, Right7 h) := by
  intro suf
  induction suf with
  | nil => intro pre i h1 hi _; subst h1; rw [f_pluviallaw07_right.l0, if_neg (by simp [hi])]; exact ⟨_, rfl, .inl ⟨rfl, by simp⟩⟩
  | cons x suf ih =>
    intro pre i h1 hi hR
    have hlen : (l.length : Int) = pre.length + (suf.length + 1) := by rw [h1]; simp
    obtain ⟨c, e, hc⟩ := right7_one x (hR x (by simp))
    rw [f_pluviallaw07_right.l0, if_pos (by simp; omega), at_mid h1 hi, sb, e, sb, wrap64 (by omega) (by omega)]
    cases c with
    | true =>
      rw [if_pos rfl]
      exact ⟨_, rfl, .inr ⟨rfl, fun h => absurd (hc.2 (h x (by simp))) (by simp)⟩⟩
    | false =>
      rw [if_neg (by simp)]
      obtain ⟨r, e2, h2⟩ := ih (pre ++ [x]) (i + 1) (by simp [h1]) (by simp; omega) (fun h hh => hR h (by simp [hh]))
      refine ⟨r, e2, ?_⟩
      rcases h2 with ⟨h2, h3⟩ | ⟨h2, h3⟩
      · exact .inl ⟨h2, fun y hy => by
          rcases List.mem_cons.1 hy with rfl | hy
          · exact hc.1 rfl
          · exact h3 y hy⟩
      · exact .inr ⟨h2, fun h => h3 (fun y hy => h y (by simp [hy]))⟩
theorem right7 (l : List THist) (hl : l.length < 1000000000000) (hR : ∀ h ∈ l, RHist h) : f_pluviallaw07_right.f l = some (decide (∀ h ∈ l, Right7 h)) := by
  unfold f_pluviallaw07_right.f
  obtain ⟨r, e, h⟩ := right7_l0 l hl l [] 0 rfl rfl hR
  rw [e, sb]
  rcases h with ⟨rfl, h⟩ | ⟨rfl, h⟩
  · rw [decide_eq_true h]
  · rw [decide_eq_false h]

theorem nozero_no {s : Int} {l : List TBucket} (hi : ∀ b ∈ l, InS s b.f0) (hs : RightS s) : ¬ Strad s (-524288) l := by
  rintro ⟨b, hb, h1, h2⟩
  have := (hi b hb).1
  have := stp_le hs
  rw [Int.sub_mul] at h1; omega

theorem keeps_true (h : THist) (mid s z : Int) (hf : RHist h) : f_pluviallaw07_MeldKeeps.f h mid s z = some true := by
  unfold f_pluviallaw07_MeldKeeps.f
  rw [right7 [h] (by simp) (by simpa using hf), awake07, sb]
  by_cases hr : Right7 h
  case neg => rw [if_pos (by simpa using hr), sb]
  rw [if_neg (by simpa using hr)]
  have hv := hr.valid
  have ff := fits_of hf
  -- the coarser schemas
  have rest : ((f_meld_Widen.f h z) >>= fun t1573 => if (t1573.2 != (0 : Int)) = true then ((((some true) >>= fun t1579 => if t1579 = true then (some (t1573.2 == (31 : Int))) else (some false)) : Option (Bool)) >>= fun x1582 => some x1582) else ((((some true) >>= fun t1592 => if t1592 = true then (if (((t1573.1).f4) == h.f4) = true then (if (((t1573.1).f5) == h.f5) = true then (if (decide (((t1573.1).f2) ≥ z)) = true then ((f_hist_Check.f (t1573.1)) >>= fun t1598 => if (t1598 == (0 : Int)) = true then (some (decide (((t1573.1).f3) ≥ h.f3))) else (some false)) else (some false)) else (some false)) else (some false)) else (some false)) : Option (Bool)) >>= fun x1601 => some x1601)) = some true := by
    -- the wider middle
    by_cases h1 : z = h.f2
    · subst h1
      rw [Widen_same h hv, sb, if_neg (by simp), sb, if_pos rfl, check_T h ff hv]
      simp [sb]
    by_cases h2 : h.f2 < z ∧ -262144 < z ∧ z ≤ 262144
    case neg =>
      rw [Widen_bad h z (by by_cases h3 : z < h.f2; exact .inl h3; exact .inr ⟨h1, fun q => h2 ⟨by omega, q⟩⟩)]
      rfl
    obtain ⟨r, e, w⟩ := Widen_swal h z hv ff h2.2 h2.1
    have hc := hv.count
    have n1 := cnt_nonneg (l := dropL h.f1 (zAt h.f1 z h.f6 h.f7) h.f6) (fun b hb => hv.pos.canon.nn b (List.mem_filter.1 hb).1)
    have n2 := cnt_nonneg (l := dropL h.f1 (zAt h.f1 z h.f6 h.f7) h.f7) (fun b hb => hv.neg.canon.nn b (List.mem_filter.1 hb).1)
    have hw := w.zero
    rw [e, sb, if_neg (by simp), sb, if_pos rfl, if_pos (by simp; rw [w.count, hc]), if_pos (by simp [w.sum]), if_pos (by simp; rw [w.zeroAt]; exact zAt_le ..), check_T r w.fits w.valid, sb, if_pos (by simp), sb]
    simp; omega
  by_cases hs : RightS s ∧ s ≤ h.f1
  case neg => rw [Down_bad h s hs, sb, if_neg (by simp), sb]; exact rest
  obtain ⟨d, e, c⟩ := Down_eq h s hv ff hs.1 hs.2
  rw [e, sb, if_pos (by simp), if_neg (by simp [c.count]), if_neg (by simp [c.sum]), if_neg (by simp [c.kind]), if_neg (by simp [c.schema]), if_neg (by simp; rw [c.zeroAt]; exact zAt_le ..), check_T d c.fits c.valid, sb, sb, if_neg (by simp)]
  by_cases hm : RightS mid ∧ mid ≤ h.f1
  case neg => rw [Down_bad h mid hm, sb, if_neg (by simp), sb, if_neg (by simp), sb, sb]; exact rest
  obtain ⟨m, em, cm⟩ := Down_eq h mid hv ff hm.1 hm.2
  rw [em, sb, if_pos (by simp)]
  by_cases hms : s ≤ mid
  case neg => rw [if_neg (by simp; omega), sb, if_neg (by simp), sb, sb]; exact rest
  rw [if_pos (by simpa using hms), sb]
  by_cases hz : h.f2 = -524288
  case neg => rw [if_neg (by simpa using hz), sb, sb]; exact rest
  rw [if_pos (by simpa using hz)]
  obtain ⟨x, ex, cx⟩ := Down_eq m s cm.valid cm.fits hs.1 (by rw [cm.schema]; exact hms)
  have cs6 := side_cs hv.pos
  have cs7 := side_cs hv.neg
  have nz : ∀ t, RightS t → t ≤ h.f1 → zAt t h.f2 (downL h.f1 t h.f6) (downL h.f1 t h.f7) = -524288 := fun t ht hle => by
    rw [hz]; exact zAt_no (nozero_no (cs_down hv.schema ht hle cs6).ins ht) (nozero_no (cs_down hv.schema ht hle cs7).ins ht)
  rw [nz mid hm.1 hm.2] at cm
  rw [nz s hs.1 hs.2] at c
  have all : ∀ (t j : Int), RightS t → InS t j → above t (-524288) j = true := fun t j ht hj => by
    have := hj.1; simp; omega
  have low : ∀ (t : Int) (r : THist) (l : List TBucket), RightS t → ∀ i, tot l i ≠ 0 → (∀ b ∈ l, InS t b.f0) → above t (-524288) i = true := fun t r l ht i hi hin => by
    apply all t i ht
    by_cases hc : ∃ b ∈ l, b.f0 = i
    · obtain ⟨b, hb, rfl⟩ := hc; exact hin b hb
    · exact absurd (tot_zero (fun b hb e => hc ⟨b, hb, e⟩)) hi
  have cut0 : ∀ (t : Int) (l : List TBucket) (i : Int), RightS t → t ≤ h.f1 → Cs h.f1 l → (if above t (-524288) i = true then tot (downL h.f1 t l) i else 0) = tot (downL h.f1 t l) i := fun t l i ht hle hc => by
    by_cases h0 : tot (downL h.f1 t l) i = 0
    · rw [h0]; split <;> rfl
    · rw [if_pos (low t h _ ht i h0 (cs_down hv.schema ht hle hc).ins)]
  have hm2 : m.f2 = -524288 := cm.zeroAt
  have hx2 : zAt s m.f2 (downL m.f1 s m.f6) (downL m.f1 s m.f7) = -524288 := by
    rw [hm2]
    exact zAt_no (nozero_no (cs_down cm.valid.schema hs.1 (by rw [cm.schema]; exact hms) (side_cs cm.valid.pos)).ins hs.1) (nozero_no (cs_down cm.valid.schema hs.1 (by rw [cm.schema]; exact hms) (side_cs cm.valid.neg)).ins hs.1)
  rw [hx2] at cx
  have hxd : x = d := by
    refine valid_ext cx.valid c.valid (cx.kind.trans (cm.kind.trans c.kind.symm)) (cx.schema.trans c.schema.symm) (cx.zeroAt.trans c.zeroAt.symm) (cx.count.trans (cm.count.trans c.count.symm)) (cx.sum.trans (cm.sum.trans c.sum.symm)) (fun i => ?_) (fun i => ?_)
    · rw [cx.tpos, c.tpos, cm.schema]
      congr 1
      have : tot (downL mid s m.f6) i = tot (downL mid s (downL h.f1 mid h.f6)) i := tot_downL_congr (fun j => (cm.tpos j).trans (cut0 mid h.f6 j hm.1 hm.2 cs6)) mid s i
      rw [this, downL_downL hm.2 hms]
    · rw [cx.tneg, c.tneg, cm.schema]
      congr 1
      have : tot (downL mid s m.f7) i = tot (downL mid s (downL h.f1 mid h.f7)) i := tot_downL_congr (fun j => (cm.tneg j).trans (cut0 mid h.f7 j hm.1 hm.2 cs7)) mid s i
      rw [this, downL_downL hm.2 hms]
  have l1 := c.valid.pos.len
  have l2 := c.valid.neg.len
  rw [ex, sb, if_neg (by simp), hxd, same_self d (by omega) (by omega)]
  exact rest

theorem meldKeeps_R (h : THist) (mid s z : Int) (hf : RHist h) (_ : I64 mid) (_ : I64 s) (_ : I64 z) : f_pluviallaw07_MeldKeeps.f h mid s z = some true := keeps_true h mid s z hf
end Go.Proofs.Yticdbkmekkbiiaa.PvGB3
