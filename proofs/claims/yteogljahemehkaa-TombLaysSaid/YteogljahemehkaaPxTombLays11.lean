import Derived.Test.YteogljahemehkaaPxTombLays10
set_option linter.unusedVariables false
set_option linter.unusedSimpArgs false
set_option linter.unusedSectionVars false
namespace Go.Pv.GS
open Go.Sort (swp)
variable {α : Type} [Inhabited α] {cmp : α → α → Option Int} {lt : α → α → Bool}
theorem pdq_eq (d : Array α) (a b limit : Nat) (wb wp : Bool) (h12 : ¬ b - a ≤ 12) (hl : ¬ limit = 0) (d1 : Array α) (e1 : d1 = if wb = true then d else Go.Sort.breakPatterns d a b) (lim : Nat) (e2 : lim = if wb = true then limit else limit - 1)
    (c : Nat × Go.Sort.Hint) (e3 : c = Go.Sort.choosePivot lt d1 a b) (d2 : Array α) (e4 : d2 = if c.2 = .decreasing then Go.Sort.reverseRange d1 a b else d1) (pv : Nat) (e5 : pv = if c.2 = .decreasing then (b - 1) - (c.1 - a) else c.1)
    (hint : Go.Sort.Hint) (e6 : hint = if c.2 = .decreasing then .increasing else c.2) (pi : Array α × Bool) (e7 : pi = if (wb && wp && decide (hint = .increasing)) = true then Go.Sort.partialInsertionSort lt d2 a b else (d2, false)) :
    Go.Sort.pdq lt d a b limit wb wp = if pi.2 = true then pi.1 else
      if (decide (a > 0) && !lt pi.1[a - 1]! pi.1[pv]!) = true then
        (if a < (Go.Sort.partitionEqual lt pi.1 a b pv).1 ∧ (Go.Sort.partitionEqual lt pi.1 a b pv).1 ≤ b then Go.Sort.pdq lt (Go.Sort.partitionEqual lt pi.1 a b pv).2 (Go.Sort.partitionEqual lt pi.1 a b pv).1 b lim wb wp else (Go.Sort.partitionEqual lt pi.1 a b pv).2)
      else
        (if a ≤ (Go.Sort.partition lt pi.1 a b pv).1 ∧ (Go.Sort.partition lt pi.1 a b pv).1 < b then
          (if (Go.Sort.partition lt pi.1 a b pv).1 - a < b - (Go.Sort.partition lt pi.1 a b pv).1 then
            Go.Sort.pdq lt (Go.Sort.pdq lt (Go.Sort.partition lt pi.1 a b pv).2.2 a (Go.Sort.partition lt pi.1 a b pv).1 lim true true) ((Go.Sort.partition lt pi.1 a b pv).1 + 1) b lim (decide ((Go.Sort.partition lt pi.1 a b pv).1 - a ≥ (b - a) / 8)) (Go.Sort.partition lt pi.1 a b pv).2.1
          else
            Go.Sort.pdq lt (Go.Sort.pdq lt (Go.Sort.partition lt pi.1 a b pv).2.2 ((Go.Sort.partition lt pi.1 a b pv).1 + 1) b lim true true) a (Go.Sort.partition lt pi.1 a b pv).1 lim (decide (b - (Go.Sort.partition lt pi.1 a b pv).1 ≥ (b - a) / 8)) (Go.Sort.partition lt pi.1 a b pv).2.1)
        else (Go.Sort.partition lt pi.1 a b pv).2.2) := by
  have e1' : d1 = if (!wb) = true then Go.Sort.breakPatterns d a b else d := by rw [e1]; cases wb <;> rfl
  have e2' : lim = if (!wb) = true then limit - 1 else limit := by rw [e2]; cases wb <;> rfl
  clear e1 e2
  subst e7; subst e6; subst e5; subst e4; subst e3; subst e1'; subst e2'
  rw [Go.Sort.pdq, if_neg h12, if_neg hl]
  simp only [dite_eq_ite]
theorem pq_main (hc : Cmp cmp lt) (hS : Go.Sort.SWO lt) : ∀ (n K : Nat) (d : Array α) (a b limit : Nat) (wb wp : Bool), b - a ≤ n → a ≤ b → b ≤ d.size → d.size < 1000000000 → limit < 1000000000 → Go.Sort.Below lt a b d → Go.Sort.bitsLen (b - a) ≤ K →
    pdqsort.l0 cmp (pdqsort.fu cmp K) d.toList a b limit wb wp = some (Go.Sort.pdq lt d a b limit wb wp).toList := by
  intro n
  induction n with
  | zero =>
    intro K d a b limit wb wp hn hab hb hd hlim hB hK
    rw [pdqsort.l0, wN (x := (b : Int) - a) (k := b - a) (by omega) (by omega), if_pos (by simp; omega), pq_ins hc d a b hab hb hd, sb, sb, Go.Sort.pdq, if_pos (by omega)]
  | succ n ih =>
    intro K d a b limit wb wp hn hab hb hd hlim hB hK
    by_cases h12 : b - a ≤ 12
    · rw [pdqsort.l0, wN (x := (b : Int) - a) (k := b - a) (by omega) (by omega), if_pos (by simp; omega), pq_ins hc d a b hab hb hd, sb, sb, Go.Sort.pdq, if_pos h12]
    by_cases hl : limit = 0
    · rw [pdqsort.l0, wN (x := (b : Int) - a) (k := b - a) (by omega) (by omega), if_neg (by simp; omega), if_pos (by simp [hl]), pq_heap hc d a b hab hb hd, sb, sb, Go.Sort.pdq, if_neg h12, if_pos hl]
    obtain ⟨d1, e1⟩ : ∃ x, x = if wb = true then d else Go.Sort.breakPatterns d a b := ⟨_, rfl⟩
    obtain ⟨lim, e2⟩ : ∃ x, x = if wb = true then limit else limit - 1 := ⟨_, rfl⟩
    obtain ⟨c, e3⟩ : ∃ x, x = Go.Sort.choosePivot lt d1 a b := ⟨_, rfl⟩
    obtain ⟨d2, e4⟩ : ∃ x, x = if c.2 = .decreasing then Go.Sort.reverseRange d1 a b else d1 := ⟨_, rfl⟩
    obtain ⟨pv, e5⟩ : ∃ x, x = if c.2 = .decreasing then (b - 1) - (c.1 - a) else c.1 := ⟨_, rfl⟩
    obtain ⟨hint, e6⟩ : ∃ x, x = if c.2 = .decreasing then Go.Sort.Hint.increasing else c.2 := ⟨_, rfl⟩
    obtain ⟨pi, e7⟩ : ∃ x, x = if (wb && wp && decide (hint = .increasing)) = true then Go.Sort.partialInsertionSort lt d2 a b else (d2, false) := ⟨_, rfl⟩
    have s1 : Go.Sort.PermIn a b d d1 := by
      rw [e1]; split
      · exact Go.Sort.permIn_refl d a b
      · exact Go.Sort.breakPatterns_holds d a b hab hb
    have b1 : b ≤ d1.size := by rw [s1.1]; exact hb
    have z1 : d1.size < 1000000000 := by rw [s1.1]; exact hd
    have s2 : Go.Sort.PermIn a b d1 d2 := by
      rw [e4]; split
      · exact Go.Sort.reverseRange_holds d1 a b hab b1
      · exact Go.Sort.permIn_refl d1 a b
    have b2 : b ≤ d2.size := by rw [s2.1]; exact b1
    have z2 : d2.size < 1000000000 := by rw [s2.1]; exact z1
    have B2 : Go.Sort.Below lt a b d2 := (hB.perm hb s1).perm b1 s2
    have s3 : Go.Sort.PermIn a b d2 pi.1 := by
      rw [e7]; split
      · exact (Go.Sort.partialInsertionSort_holds hS d2 a b (by omega) b2 B2).1
      · exact Go.Sort.permIn_refl d2 a b
    have b3 : b ≤ pi.1.size := by rw [s3.1]; exact b2
    have z3 : pi.1.size < 1000000000 := by rw [s3.1]; exact z2
    have B3 : Go.Sort.Below lt a b pi.1 := B2.perm b2 s3
    have hc0 := Go.Sort.choosePivot_holds lt d1 a b (by omega)
    rw [← e3] at hc0
    have hpv : a ≤ pv ∧ pv < b := by rw [e5]; split <;> omega
    have hlim2 : lim < 1000000000 := by rw [e2]; split <;> omega
    have T1 : ((if (!wb) = true then ((breakPatterns.f d.toList a b) >>= fun t1858 => some (t1858, IntKind.i64.wrap ((limit : Int) - (1 : Int)))) else (some (d.toList, (limit : Int)))) : Option ((List α) × Int)) = some (d1.toList, (lim : Int)) := by
      cases wb with
      | true => rw [if_neg (show ¬ (!true) = true by simp), e1, e2]; rfl
      | false => rw [if_pos (show (!false) = true from rfl), pq_bp d a b hab hb hd, sb, e1, e2, wN (x := (limit : Int) - 1) (k := limit - 1) (by omega) (by omega)]; rfl
    have T2 : ((if (hnt c.2 == (2 : Int)) = true then ((reverseRange.f d1.toList a b) >>= fun t1869 => some (t1869, IntKind.i64.wrap ((IntKind.i64.wrap ((b : Int) - (1 : Int))) - (IntKind.i64.wrap ((c.1 : Int) - a))), (1 : Int))) else (some (d1.toList, (c.1 : Int), hnt c.2))) : Option ((List α) × Int × Int)) = some (d2.toList, (pv : Int), hnt hint) := by
      by_cases h : c.2 = .decreasing
      · rw [if_pos (by rw [h]; rfl), pq_rev d1 a b (by omega) b1 z1, sb, e4, e5, e6, if_pos h, if_pos h, if_pos h, wN (x := (b : Int) - 1) (k := b - 1) (by omega) (by omega), wN (x := (c.1 : Int) - a) (k := c.1 - a) (by omega) (by omega), wN (x := ((b - 1 : Nat) : Int) - ((c.1 - a : Nat) : Int)) (k := (b - 1) - (c.1 - a)) (by omega) (by omega)]
        rfl
      · rw [if_neg (by cases hh : c.2 <;> simp_all [hnt]), e4, e5, e6, if_neg h, if_neg h, if_neg h]
    have T3 : ((if wb = true then (if wp = true then (some (hnt hint == (1 : Int))) else (some false)) else (some false)) : Option (Bool)) = some (wb && wp && decide (hint = .increasing)) := by
      cases wb <;> cases wp <;> cases hint <;> rfl
    have T4 : ((if (wb && wp && decide (hint = .increasing)) = true then ((partialInsertionSort.f cmp d2.toList a b) >>= fun t1882 => if t1882.1 = true then (some (.inl t1882.2)) else (some (.inr t1882.2))) else (some (.inr d2.toList))) : Option ((List α) ⊕ (List α))) = some (if pi.2 = true then .inl pi.1.toList else .inr pi.1.toList) := by
      by_cases h : (wb && wp && decide (hint = .increasing)) = true
      · rw [if_pos h, pq_pi hc d2 a b (by omega) b2 z2, sb]
        rw [if_pos h] at e7
        rw [e7]
        cases (Go.Sort.partialInsertionSort lt d2 a b).2 <;> rfl
      · rw [if_neg h]
        rw [if_neg h] at e7
        rw [e7]; rfl
    rw [pdqsort.l0, wN (x := (b : Int) - a) (k := b - a) (by omega) (by omega), if_neg (by simp; omega), if_neg (by simp; omega), T1, sb]
    try dsimp only
    rw [pq_piv hc d1 a b (by omega) b1 z1, sb, ← e3]
    try dsimp only
    rw [T2, sb]
    try dsimp only
    rw [T3, sb, T4, sb]
    rw [pdq_eq d a b limit wb wp h12 hl d1 e1 lim e2 c e3 d2 e4 pv e5 hint e6 pi e7]
    clear T1 T2 T3 T4 e1 e2 e3 e4 e5 e6 e7
    cases hp2 : pi.2 with
    | true => rw [if_pos rfl, if_pos rfl]; rfl
    | false =>
      rw [if_neg (by simp), if_neg (by simp)]
      try dsimp only
      have T5 : ((if (decide ((a : Int) > (0 : Int))) = true then ((at? pi.1.toList (IntKind.i64.wrap ((a : Int) - (1 : Int)))) >>= fun b1896 => (at? pi.1.toList (pv : Int)) >>= fun b1899 => (cmp b1896 b1899) >>= fun t1902 => some (!(decide (t1902 < (0 : Int))))) else (some false)) : Option (Bool)) = some (decide (a > 0) && !lt pi.1[a - 1]! pi.1[pv]!) := by
        by_cases h : a > 0
        · obtain ⟨x, e, hlt⟩ := hc pi.1[a - 1]! pi.1[pv]!
          rw [if_pos (by simp; omega), wN (x := (a : Int) - 1) (k := a - 1) (by omega) (by omega), atA (by omega), sb, atA (by omega), sb, e, sb, hlt]; simp [h]
        · rw [if_neg (by simp; omega)]; simp [h]
      rw [T5, sb]
      by_cases hcond : (decide (a > 0) && !lt pi.1[a - 1]! pi.1[pv]!) = true
      · rw [if_pos hcond, if_pos hcond, pq_pe hc pi.1 a b pv hpv.1 hpv.2 b3 z3, sb, sb]
        simp only [Bool.and_eq_true, decide_eq_true_eq, Bool.not_eq_true'] at hcond
        obtain ⟨m1, m2, s4, B4, _⟩ := Go.Sort.round_eq (mid := (Go.Sort.partitionEqual lt pi.1 a b pv).1) (d4 := (Go.Sort.partitionEqual lt pi.1 a b pv).2) hS (Go.Sort.partitionEqual_holds lt) hcond.1 hpv.1 hpv.2 b3 B3 hcond.2 rfl
        generalize Go.Sort.partitionEqual lt pi.1 a b pv = r at *
        obtain ⟨mid, d4⟩ := r
        simp only at m1 m2 s4 B4 ⊢
        rw [if_pos (show a < mid ∧ mid ≤ b from ⟨m1, m2⟩)]
        exact ih K d4 mid b lim wb wp (by omega) m2 (by rw [s4]; exact b3) (by rw [s4]; exact z3) hlim2 B4 (Nat.le_trans (Go.Sort.bitsLen_mono (by omega)) hK)
      · rw [if_neg hcond, if_neg hcond, pq_pt hc pi.1 a b pv hpv.1 hpv.2 b3 z3, sb]
        obtain ⟨m1, m2, s4, Ba, Br, hL, hR⟩ := Go.Sort.round_part (mid := (Go.Sort.partition lt pi.1 a b pv).1) (ap := (Go.Sort.partition lt pi.1 a b pv).2.1) (d4 := (Go.Sort.partition lt pi.1 a b pv).2.2) hS (Go.Sort.partition_holds lt) hpv.1 hpv.2 b3 B3 rfl
        generalize Go.Sort.partition lt pi.1 a b pv = r at *
        obtain ⟨mid, ap, d4⟩ := r
        simp only at m1 m2 s4 Ba Br hL hR ⊢
        rw [if_pos (show a ≤ mid ∧ mid < b from ⟨m1, m2⟩)]
        have q8 : IntKind.i64.wrap (Int.tdiv ((b - a : Nat) : Int) 8) = (((b - a) / 8 : Nat) : Int) := by
          rw [Int.tdiv_eq_ediv_of_nonneg (by omega)]; exact wN (by omega) (by omega)
        rw [wN (x := (mid : Int) - a) (k := mid - a) (by omega) (by omega), wN (x := (b : Int) - mid) (k := b - mid) (by omega) (by omega), wN (x := (mid : Int) + 1) (k := mid + 1) (by omega) (by omega), q8]
        have b4 : b ≤ d4.size := by rw [s4]; exact b3
        have z4 : d4.size < 1000000000 := by rw [s4]; exact z3
        by_cases hlt : mid - a < b - mid
        · have hk := Go.Sort.bitsLen_half (x := mid - a) (y := b - a) (by omega) (by omega)
          obtain ⟨K', rfl⟩ : ∃ K', K = K' + 1 := ⟨K - 1, by omega⟩
          have L := ih K' d4 a mid lim true true (by omega) m1 (by omega) z4 hlim2 Ba (by omega)
          have P := Go.Sort.pdq_sorts lt hS d4 a mid lim true true m1 (by omega) Ba
          obtain ⟨BL, _⟩ := hL _ P.1 P.2
          rw [if_pos (by simp; omega), if_pos hlt]
          have call : pdqsort.fu cmp (K' + 1) d4.toList a mid lim = some (Go.Sort.pdq lt d4 a mid lim true true).toList := by
            show (pdqsort.l0 cmp (pdqsort.fu cmp K') d4.toList a mid lim true true >>= fun rr => some rr) = _
            rw [L, sb]
          rw [call, sb, sb]
          try dsimp only
          rw [sb]
          have hdec : decide (((mid - a : Nat) : Int) ≥ (((b - a) / 8 : Nat) : Int)) = decide (mid - a ≥ (b - a) / 8) := by rw [decide_eq_decide]; omega
          rw [hdec]
          exact ih (K' + 1) _ (mid + 1) b lim _ ap (by omega) (by omega) (by rw [P.1.1]; exact b4) (by rw [P.1.1]; exact z4) hlim2 BL (Nat.le_trans (Go.Sort.bitsLen_mono (by omega)) hK)
        · have hk := Go.Sort.bitsLen_half (x := b - (mid + 1)) (y := b - a) (by omega) (by omega)
          obtain ⟨K', rfl⟩ : ∃ K', K = K' + 1 := ⟨K - 1, by omega⟩
          have L := ih K' d4 (mid + 1) b lim true true (by omega) (by omega) b4 z4 hlim2 Br (by omega)
          have P := Go.Sort.pdq_sorts lt hS d4 (mid + 1) b lim true true (by omega) b4 Br
          obtain ⟨BL, _⟩ := hR _ P.1 P.2
          rw [if_neg (by simp; omega), if_neg hlt]
          have call : pdqsort.fu cmp (K' + 1) d4.toList ((mid + 1 : Nat) : Int) b lim = some (Go.Sort.pdq lt d4 (mid + 1) b lim true true).toList := by
            show (pdqsort.l0 cmp (pdqsort.fu cmp K') d4.toList ((mid + 1 : Nat) : Int) b lim true true >>= fun rr => some rr) = _
            rw [L, sb]
          rw [call, sb, sb]
          try dsimp only
          rw [sb]
          have hdec : decide (((b - mid : Nat) : Int) ≥ (((b - a) / 8 : Nat) : Int)) = decide (b - mid ≥ (b - a) / 8) := by rw [decide_eq_decide]; omega
          rw [hdec]
          exact ih (K' + 1) _ a mid lim _ ap (by omega) m1 (by rw [P.1.1]; omega) (by rw [P.1.1]; exact z4) hlim2 BL (Nat.le_trans (Go.Sort.bitsLen_mono (by omega)) hK)
end Go.Pv.GS
set_option linter.unusedVariables false
set_option linter.unusedSimpArgs false
set_option linter.unusedSectionVars false
namespace Go.Pv.GS
variable {α : Type} [Inhabited α] {cmp : α → α → Option Int} {lt : α → α → Bool}
theorem swo_kit (h : SWO lt) : Go.Sort.SWO lt where
  irrefl x := by
    cases e : lt x x with
    | false => rfl
    | true => have q := h.asymm x x e; rw [e] at q; exact absurd q (by simp)
  trans x y z h1 h2 := by
    cases e : lt x z with
    | true => rfl
    | false => have q := h.trans y z x (h.asymm _ _ h2) e; rw [h1] at q; exact absurd q (by simp)
  ntrans x y z h1 h2 := h.trans z y x h2 h1
theorem pq_sort (hc : Cmp cmp lt) (h : SWO lt) (d : Array α) (hd : d.size < 1000000000) : SortF.f cmp d.toList = some (Go.Sort.sort lt d).toList := by
  unfold SortF.f
  have e : ((d.toList.length : Nat) : Int) = (d.size : Int) := by simp
  have hb : Go.Sort.bitsLen d.size ≤ 30 := (Go.Sort.bitsLen_le_iff _ 30).2 (by omega)
  rw [e, wrapU (n := (d.size : Int)) (by omega) (by omega), pq_len (by omega), sb]
  have m := pq_main hc (swo_kit h) d.size 99 d 0 d.size (Go.Sort.bitsLen d.size) true true (by omega) (by omega) (Nat.le_refl _) hd (by omega) (.inl rfl) (by rw [Nat.sub_zero]; omega)
  have c : pdqsort.f cmp d.toList 0 d.size (Go.Sort.bitsLen d.size) = some (Go.Sort.sort lt d).toList := by
    show (pdqsort.l0 cmp (pdqsort.fu cmp 99) d.toList ((0 : Nat) : Int) d.size (Go.Sort.bitsLen d.size) true true >>= fun rr => some rr) = _
    rw [m, sb]; rfl
  rw [c, sb]
theorem sortF (hc : Cmp cmp lt) (h : SWO lt) (l : List α) (hl : l.length < 1000000000) : ∃ r, SortF.f cmp l = some r ∧ r.Perm l ∧ r.Pairwise (fun a b => lt b a = false) := by
  have e := pq_sort hc h l.toArray (by simpa using hl)
  obtain ⟨p, s⟩ := Go.Sort.sort_sorts lt (swo_kit h) l.toArray
  refine ⟨_, e, ?_, ?_⟩
  · have := p.2.2
    rw [show (Go.Sort.sort lt l.toArray).extract 0 l.toArray.size = Go.Sort.sort lt l.toArray from by rw [← p.1]; simp] at this
    simpa using this
  · rw [List.pairwise_iff_getElem]
    intro i j hi hj hij
    have hj' : j < l.toArray.size := by rw [← p.1]; simpa using hj
    have := s i j (by omega) hij hj'
    have hi' : i < (Go.Sort.sort lt l.toArray).size := by simpa using hi
    have hj2 : j < (Go.Sort.sort lt l.toArray).size := by simpa using hj
    rw [getElem!_pos _ i hi', getElem!_pos _ j hj2] at this
    simpa using this
end Go.Pv.GS
