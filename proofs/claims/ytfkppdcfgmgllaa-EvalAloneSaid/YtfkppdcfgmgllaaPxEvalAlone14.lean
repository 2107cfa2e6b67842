import Derived.Test.YtfkppdcfgmgllaaPxEvalAlone13
set_option linter.unusedVariables false
set_option linter.unusedSimpArgs false
set_option maxRecDepth 10000
namespace Go.Proofs.Ytfkppdcfgmgllaa.PvGD3
open Go Go.Pv Go.Pv.GS
theorem awake19 : f_pluviallaw19_awake.f = some true := by cbv
abbrev inWin (since at_ : Int) (s : TSample) : Bool := decide (since < s.f0 ∧ s.f0 ≤ at_)
theorem win_inst (l : List TSample) (a b : Int) : f_slices_DeleteFunc_api_Sample_eval_Window_1_aaa.f l a b = deleteF.f (fun x => f_eval_Window_1_00e.f x a b) (⟨0, (⟨0, 0, 0, 0, 0, 0, [], []⟩ : THist)⟩ : TSample) l := by kernel_rfl
theorem win_eq (l : List TSample) (hl : l.length < 1000000000) (a b : Int) : f_eval_Window.f l a b = some (l.filter (inWin a b)) := by
  unfold f_eval_Window.f f_slices_Clone_api_Sample.f
  rw [chkB (by simp; omega), sb, win_inst, deleteF_eq (p := fun s => !inWin a b s) (fun s => by
    unfold f_eval_Window_1_00e.f inWin
    by_cases c : s.f0 ≤ a
    · rw [if_pos (by simpa using c), sb, decide_eq_false (by omega)]; rfl
    · rw [if_neg (by simpa using c), sb]
      by_cases c2 : s.f0 > b
      · rw [decide_eq_true c2, decide_eq_false (by omega)]; rfl
      · rw [decide_eq_false c2, decide_eq_true (by omega)]; rfl) _ _ (by omega), sb]
  simp only [Bool.not_not]
theorem rtime (t : Int) : f_pluvialref15_time.f t = some (decide (0 ≤ t ∧ t ≤ 1099511627776)) := by
  unfold f_pluvialref15_time.f
  by_cases c : 0 ≤ t <;> simp [c]
theorem light1 (s : TSample) (hs : RSample s) : ∃ b, f_pluviallaw19_light.f [s] = some b ∧ (b = true → Valid s.f1 ∧ 0 ≤ s.f0 ∧ s.f0 ≤ 1099511627776) := by
  have h6 := hs.r1.r6.1
  have h7 := hs.r1.r7.1
  have w1 : IntKind.i64.wrap ((0 : Int) + 1) = 1 := by decide
  unfold f_pluviallaw19_light.f
  rw [f_pluviallaw19_light.l0, if_pos (by simp), show at? [s] 0 = some s from rfl, sb, wrap64 (n := (1 : Int) + (s.f1.f6.length : Int)) (by omega) (by omega), wrap64 (n := (1 : Int) + (s.f1.f6.length : Int) + (s.f1.f7.length : Int)) (by omega) (by omega), wrap64 (n := (0 : Int) + ((1 : Int) + (s.f1.f6.length : Int) + (s.f1.f7.length : Int))) (by omega) (by omega), w1,
    f_pluviallaw19_light.l0, if_neg (by simp), sb]
  by_cases hn : (0 : Int) + ((1 : Int) + (s.f1.f6.length : Int) + (s.f1.f7.length : Int)) ≤ 400
  case neg => rw [if_neg (by simpa using hn), sb]; exact ⟨false, rfl, by simp⟩
  rw [if_pos (by simpa using hn)]
  unfold f_pluvialref15_Rising.f
  obtain ⟨r, er, hr⟩ := ref_check_iff s.f1 (fits_of hs.r1) (by omega) (by omega)
  rw [f_pluvialref15_Rising.l0, if_pos (by simp), show at? [s] 0 = some s from rfl, sb, rtime, sb]
  by_cases ht : 0 ≤ s.f0 ∧ s.f0 ≤ 1099511627776
  case neg => rw [if_pos (by rw [decide_eq_false ht]; rfl), sb, if_pos rfl, sb, sb, sb]; exact ⟨false, rfl, by simp⟩
  rw [if_neg (by rw [decide_eq_true ht]; simp), er, sb]
  by_cases hr0 : r = 0
  · rw [if_neg (by simpa using hr0), if_neg (by simp), sb, if_neg (by simp), w1, f_pluvialref15_Rising.l0, if_neg (by simp), sb, sb, sb]
    exact ⟨true, rfl, fun _ => ⟨hr.1 hr0, ht⟩⟩
  · rw [if_pos (by simpa using hr0), sb, if_pos rfl, sb, sb, sb]; exact ⟨false, rfl, by simp⟩
theorem quant_tot {h : THist} (v : Valid h) (f : Fits h) {part of : Int} (hp : U64 part) (ho : U64 of) : ∃ k e, f_rank_Quantile.f h part of = some (k, e) := by
  by_cases h0 : of = 0
  · unfold f_rank_Quantile.f
    rw [if_pos (by simpa using h0), sb, if_pos rfl]; exact ⟨_, _, rfl⟩
  by_cases hle : part ≤ of
  case neg =>
    unfold f_rank_Quantile.f
    rw [if_neg (by simpa using h0), sb, if_pos (by simp; omega)]; exact ⟨_, _, rfl⟩
  by_cases hc : h.f4 = 0
  · unfold f_rank_Quantile.f
    rw [if_neg (by simpa using h0), sb, if_neg (by simp; omega), if_pos (by simpa using hc)]; exact ⟨_, _, rfl⟩
  have := f.count.1
  obtain ⟨c, _, _, e⟩ := quant_ok v f hp ho (by have := ho.1; omega) hle (by omega)
  exact ⟨_, _, e⟩
theorem finish_tot (q : Teval_Ask) {h : THist} (v : Valid h) (f : Fits h) (hp : U64 q.f1) (ho : U64 q.f2) : ∃ a e, f_eval_Finish.f q h = some (a, e) ∧ (q.f0 = 0 → a.f0 = h ∧ e = 0) ∧ (q.f0 = 1 → a.f1 = h.f5 ∧ e = 0) ∧ (q.f0 = 2 → a.f2 = h.f4 ∧ e = 0) := by
  have hsm : h.f6.length < 1000000000 ∧ h.f7.length < 1000000000 := by have := v.pos.len; have := v.neg.len; omega
  unfold f_eval_Finish.f
  by_cases h0 : q.f0 = 0 ∨ q.f0 = 5
  · have hb : ((if (q.f0 == (0 : Int)) = true then (some (q.f0 == (0 : Int))) else (some (q.f0 == (5 : Int)))) : Option Bool) = some true := by
      rcases h0 with c | c <;> simp [c]
    rw [hb, sb, if_pos rfl, clone_eq h hsm.1 hsm.2, sb, sb]
    dsimp only
    rw [if_neg (by simp)]
    exact ⟨_, _, rfl, fun _ => ⟨rfl, rfl⟩, fun c => by rcases h0 with q | q <;> omega, fun c => by rcases h0 with q | q <;> omega⟩
  have hb : ((if (q.f0 == (0 : Int)) = true then (some (q.f0 == (0 : Int))) else (some (q.f0 == (5 : Int)))) : Option Bool) = some false := by
    have c1 : ¬ q.f0 = 0 := fun c => h0 (.inl c)
    have c2 : ¬ q.f0 = 5 := fun c => h0 (.inr c)
    simp [c1, c2]
  rw [hb, sb, if_neg (by simp)]
  by_cases h1 : q.f0 = 1
  · rw [if_pos (by simpa using h1), sb]
    dsimp only
    rw [sb]
    dsimp only
    rw [if_neg (by simp)]
    exact ⟨_, _, rfl, fun c => by omega, fun _ => ⟨rfl, rfl⟩, fun c => by omega⟩
  rw [if_neg (by simpa using h1)]
  by_cases h2 : q.f0 = 2
  · rw [if_pos (by simpa using h2), sb]
    dsimp only
    rw [sb]
    dsimp only
    rw [sb]
    dsimp only
    rw [if_neg (by simp)]
    exact ⟨_, _, rfl, fun c => by omega, fun c => by omega, fun _ => ⟨rfl, rfl⟩⟩
  rw [if_neg (by simpa using h2)]
  by_cases h3 : q.f0 = 3
  · obtain ⟨k, e, eq⟩ := quant_tot v f hp ho
    rw [if_pos (by simpa using h3), eq, sb, sb]
    dsimp only
    rw [sb]
    dsimp only
    rw [sb]
    dsimp only
    rw [sb]
    dsimp only
    by_cases he : e = 0
    · rw [if_neg (by simpa using he)]; exact ⟨_, _, rfl, fun c => by omega, fun c => by omega, fun c => by omega⟩
    · rw [if_pos (by simpa using he)]; exact ⟨_, _, rfl, fun c => by omega, fun c => by omega, fun c => by omega⟩
  rw [if_neg (by simpa using h3)]
  obtain ⟨p, e, eq⟩ : ∃ (p : Int × Int × Int) (e : Int), ((if (q.f0 == (4 : Int)) = true then ((f_rank_Below.f h (⟨q.f3.f0, q.f3.f1⟩ : Trank_Place)) >>= fun t2340 => some ((t2340.1).f0, (t2340.1).f1, (t2340.1).f2, t2340.2)) else (some (0, 0, 0, 1))) : Option (Int × Int × Int × Int)) = some (p.1, p.2.1, p.2.2, e) := by
    by_cases h4 : q.f0 = 4
    · rw [if_pos (by simpa using h4), below_eq v f, sb]; exact ⟨(_, _, _), _, rfl⟩
    · rw [if_neg (by simpa using h4)]; exact ⟨(0, 0, 0), 1, rfl⟩
  rw [eq, sb]
  dsimp only
  rw [sb]
  dsimp only
  rw [sb]
  dsimp only
  rw [sb]
  dsimp only
  rw [sb]
  dsimp only
  by_cases he : e = 0
  · rw [if_neg (by simpa using he)]; exact ⟨_, _, rfl, fun c => by omega, fun c => by omega, fun c => by omega⟩
  · rw [if_pos (by simpa using he)]; exact ⟨_, _, rfl, fun c => by omega, fun c => by omega, fun c => by omega⟩
theorem of_none (q : Teval_Ask) (l : List TSample) (hl : l.length < 1000000000) (h : l.filter (inWin q.f4 q.f5) = []) : ∃ x, f_eval_Of.f q l = some (x, 30) := by
  unfold f_eval_Of.f
  rw [win_eq l hl, h, sb]
  by_cases h5 : q.f0 = 5
  · rw [if_pos (by simpa using h5), f_eval_Of.l0, if_neg (by simp), sb]
    unfold f_meld_Rise.f
    rw [if_pos (by simp), sb]
    exact ⟨_, rfl⟩
  · rw [if_neg (by simpa using h5), if_pos (by simp)]
    exact ⟨_, rfl⟩
theorem do_none (q : Teval_Ask) (l : List TSample) (hl : l.length < 1000000000) (hk : 0 ≤ q.f0 ∧ q.f0 ≤ 5) (h : l.filter (inWin q.f4 q.f5) = []) : ∃ a, f_eval_Do.f q l = some (a, 30) := by
  unfold f_eval_Do.f
  obtain ⟨x, e⟩ := of_none q l hl h
  rw [if_neg (by simp; omega), sb, if_neg (by simp; omega), e, sb]
  dsimp only
  rw [if_pos (by simp)]
  exact ⟨_, rfl⟩
theorem do_one (q : Teval_Ask) (s : TSample) (hk : 0 ≤ q.f0 ∧ q.f0 ≤ 5) (hw : inWin q.f4 q.f5 s = true) (v : Valid s.f1) (f : Fits s.f1) (hp : U64 q.f1) (ho : U64 q.f2) :
    ∃ a e, f_eval_Do.f q [s] = some (a, e) ∧ (q.f0 = 0 → a.f0 = s.f1 ∧ e = 0) ∧ (q.f0 = 1 → a.f1 = s.f1.f5 ∧ e = 0) ∧ (q.f0 = 2 → a.f2 = s.f1.f4 ∧ e = 0) ∧ (q.f0 = 5 → e = 30) := by
  have hsm : s.f1.f6.length < 1000000000 ∧ s.f1.f7.length < 1000000000 := by have := v.pos.len; have := v.neg.len; omega
  have w1 : IntKind.i64.wrap ((0 : Int) + 1) = 1 := by decide
  have w0 : IntKind.i64.wrap ((([s] : List TSample).length : Int) - 1) = 0 := by rw [show (([s] : List TSample).length : Int) = 1 from rfl]; decide
  unfold f_eval_Do.f
  rw [if_neg (by simp; omega), sb, if_neg (by simp; omega)]
  by_cases h5 : q.f0 = 5
  · have : ∃ x, f_eval_Of.f q [s] = some (x, 30) := by
      unfold f_eval_Of.f
      rw [win_eq [s] (by simp), show [s].filter (inWin q.f4 q.f5) = [s] by simp only [List.filter_cons, hw, List.filter_nil, if_true], sb, if_pos (by simpa using h5), f_eval_Of.l0, if_pos (by simp), show at? [s] 0 = some s from rfl, sb, chkB (by simp), w1, f_eval_Of.l0, if_neg (by simp), sb]
      unfold f_meld_Rise.f
      rw [if_pos (by simp), sb]
      exact ⟨_, rfl⟩
    obtain ⟨x, e⟩ := this
    rw [e, sb]
    dsimp only
    rw [if_pos (by simp)]
    exact ⟨_, _, rfl, fun c => by omega, fun c => by omega, fun c => by omega, fun _ => rfl⟩
  · have : f_eval_Of.f q [s] = some (s.f1, 0) := by
      unfold f_eval_Of.f
      rw [win_eq [s] (by simp), show [s].filter (inWin q.f4 q.f5) = [s] by simp only [List.filter_cons, hw, List.filter_nil, if_true], sb, if_neg (by simpa using h5), if_neg (by simp), w0, show at? [s] 0 = some s from rfl, sb, clone_eq s.f1 hsm.1 hsm.2, sb]
    rw [this, sb]
    dsimp only
    obtain ⟨a, e, eq, g0, g1, g2⟩ := finish_tot q v f hp ho
    rw [if_neg (by simp), eq, sb]
    exact ⟨_, _, rfl, g0, g1, g2, fun c => absurd c h5⟩
theorem evalAlone_R (s : TSample) (a : Tpluvialref19_Ask) (hs : RSample s) (ha : Rpluvialref19_Ask a) : f_pluviallaw19_EvalAlone.f s a = some true := by
  unfold f_pluviallaw19_EvalAlone.f
  obtain ⟨b, eb, hb⟩ := light1 s hs
  rw [eb, sb]
  cases b with
  | false => rw [if_pos (show (!false) = true from rfl), awake19, sb]
  | true =>
    obtain ⟨v, ht0, ht1⟩ := hb rfl
    have f := fits_of hs.r1
    have hsm : s.f1.f6.length < 1000000000 ∧ s.f1.f7.length < 1000000000 := by have := v.pos.len; have := v.neg.len; omega
    rw [if_neg (by simp)]
    have hto : f_pluviallaw19_To.f a = some (⟨a.f0, a.f1, a.f2, (⟨a.f3, a.f4⟩ : Trank_Place), a.f5, a.f6⟩ : Teval_Ask) := rfl
    have main : ∀ (m : Nat) (k : Int), k + m = 6 → 0 ≤ k → f_pluviallaw19_EvalAlone.l0 s a k = some (.inr ()) := by
      intro m
      induction m with
      | zero => intro k hk h0; rw [f_pluviallaw19_EvalAlone.l0, if_neg (by simp; omega)]
      | succ m ih =>
        intro k hk h0
        rw [f_pluviallaw19_EvalAlone.l0, if_pos (by simp; omega), hto, sb, wrap64 (n := s.f0 - 1) (by omega) (by omega), wrap64 (n := k + 1) (by omega) (by omega)]
        obtain ⟨x, e, ed, g0, g1, g2, g5⟩ := do_one (⟨k, a.f1, a.f2, (⟨a.f3, a.f4⟩ : Trank_Place), s.f0 - 1, s.f0⟩ : Teval_Ask) s ⟨h0, by show k ≤ 5; omega⟩ (decide_eq_true ⟨by show s.f0 - 1 < s.f0; omega, Int.le_refl _⟩) v f ha.r1 ha.r2
        obtain ⟨y, e2⟩ := do_none (⟨k, a.f1, a.f2, (⟨a.f3, a.f4⟩ : Trank_Place), s.f0, s.f0⟩ : Teval_Ask) [s] (by simp) ⟨h0, by show k ≤ 5; omega⟩ (by
          rw [List.filter_cons, if_neg (by simp [inWin])]; rfl)
        dsimp only at ed g0 g1 g2 g5 e2 ⊢
        rw [ed, sb, e2]
        have b0 : ((if (k == (0 : Int)) = true then (if (e != (0 : Int)) = true then (some true) else ((f_pluvialref05_Same.f x.f0 s.f1) >>= fun t2582 => some (!t2582))) else (some false)) : Option Bool) = some false := by
          by_cases c : k = 0
          · obtain ⟨q1, q2⟩ := g0 c
            rw [if_pos (by simpa using c), q1, q2, if_neg (by simp), rSame_self s.f1 hsm.1 hsm.2, sb]; rfl
          · rw [if_neg (by simpa using c)]
        have b1 : ((if (k == (1 : Int)) = true then (if (e != (0 : Int)) = true then (some true) else (some (x.f1 != s.f1.f5))) else (some false)) : Option Bool) = some false := by
          by_cases c : k = 1
          · obtain ⟨q1, q2⟩ := g1 c
            rw [if_pos (by simpa using c), q1, q2, if_neg (by simp)]; simp
          · rw [if_neg (by simpa using c)]
        have b2 : ((if (k == (2 : Int)) = true then (if (e != (0 : Int)) = true then (some true) else (some (x.f2 != s.f1.f4))) else (some false)) : Option Bool) = some false := by
          by_cases c : k = 2
          · obtain ⟨q1, q2⟩ := g2 c
            rw [if_pos (by simpa using c), q1, q2, if_neg (by simp)]; simp
          · rw [if_neg (by simpa using c)]
        have b5 : ((if (k == (5 : Int)) = true then (some (e != (30 : Int))) else (some false)) : Option Bool) = some false := by
          by_cases c : k = 5
          · rw [if_pos (by simpa using c), g5 c]; rfl
          · rw [if_neg (by simpa using c)]
        dsimp only
        rw [b0, sb, if_neg (by simp), b1, sb, if_neg (by simp), b2, sb, if_neg (by simp), b5, sb, if_neg (by simp), sb, if_neg (by simp)]
        exact ih (k + 1) (by omega) (by omega)
    rw [main 6 0 (by omega) (by omega), sb]
    dsimp only
    rw [awake19, sb]
end Go.Proofs.Ytfkppdcfgmgllaa.PvGD3
