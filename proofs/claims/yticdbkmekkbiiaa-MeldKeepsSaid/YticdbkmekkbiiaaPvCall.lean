import Derived.Test.YticdbkmekkbiiaaPvMem2
set_option linter.unusedVariables false
set_option linter.unusedSimpArgs false
/-! Functions and calls. -/
namespace Go.Pv

def entryCtx (P : Program) (n : Nat) (κ : Nat → Option KI) (I : Nat → Prop) (s : AState) (w : World) : Ctx :=
  { P, n, w0 := w, I0 := I, M0 := fun b => ∃ k o ki, s.obj k = some o ∧ κ k = some ki ∧ ki.b = b, κ0 := κ }

/-- Called with such arguments and objects it returns such a result, and leaves such objects; all else is as it was. -/
def Fn (P : Program) (f : FuncId) (args : List AVal) (objs : List (Nat × Option MObj)) (floor : Nat) (Q : AVal → List (Nat × Option MObj) → Prop) : Prop :=
  ∀ (κ : Nat → Option KI) (I : Nat → Prop) (w : World) (vs : List Value), vs.length = args.length → (∀ j (h : j < args.length) (h' : j < vs.length), Rep w I κ (args[j]) (vs[j])) →
    Inv (entryCtx P 0 κ I ⟨[], objs, floor⟩ w) κ I ⟨[], objs, floor⟩ w →
    Calls P f vs.toArray w fun e w' => ∃ v r objs' κ' I', e = .returned v ∧ Q r objs' ∧ Rep w' I' κ' r v ∧ Inv (entryCtx P 0 κ I ⟨[], objs, floor⟩ w) κ' I' ⟨[], objs', floor⟩ w'

theorem Fn.mono {P : Program} {f : FuncId} {args : List AVal} {objs : List (Nat × Option MObj)} {floor : Nat} {Q Q' : AVal → List (Nat × Option MObj) → Prop} (h : Fn P f args objs floor Q)
    (hq : ∀ r o, Q r o → Q' r o) : Fn P f args objs floor Q' := fun κ I w vs h1 h2 h3 =>
  (h κ I w vs h1 h2 h3).mono fun e w' ⟨v, r, o, κ', I', e1, e2, e3, e4⟩ => ⟨v, r, o, κ', I', e1, hq _ _ e2, e3, e4⟩

/-! ### A function's results -/
def resA (P : Program) (s : AState) : ResultVar → Option AVal
  | .tmp t => some (s.get t)
  | .cell a t => match s.get a with
    | .ptr k 0 j => match s.obj k with
      | some (.box el cells) => match aggP P t with
        | some (ag, sz) => loadA ag sz (cells.drop j)
        | none => none
      | _ => none
    | _ => none
def resL (P : Program) (s : AState) : List ResultVar → Option (List AVal)
  | [] => some []
  | x :: r => match resA P s x, resL P s r with
    | some y, some l => some (y :: l)
    | _, _ => none
def resOf (P : Program) (fn : Func) (s : AState) : Option AVal :=
  match resL P s fn.results.toList with
  | some [r] => some r
  | some l => some (.tup l)
  | none => none

def resRun (tmps : Array Value) : ResultVar → Sem Value
  | .tmp t => pure (tmps.getD t undef)
  | .cell c t => do loadVar t (← asAddr (tmps.getD c undef))
theorem results_eq (fn : Func) (tmps : Array Value) : results fn tmps = (fn.results.mapM (resRun tmps) >>= fun vs => pure (if h : vs.size = 1 then vs[0] else .tuple vs)) := by
  unfold results
  congr 2

theorem run_resA {Γ : Ctx} {κ : Nat → Option KI} {I : Nat → Prop} {s : AState} {a : Act} {w : World} (h : Rel Γ κ I s a w) {x : ResultVar} {r : AVal} (hr : resA Γ.P s x = some r) :
    ∃ v, (resRun a.tmps x).run Γ.P w = .ok v w ∧ Rep w I κ r v := by
  cases x with
  | tmp t => exact ⟨_, rfl, by obtain rfl := Option.some.inj hr; exact h.slots t⟩
  | cell c t =>
    simp only [resA] at hr
    split at hr
    · rename_i k j hg
      split at hr
      · rename_i el cells ho
        split at hr
        · rename_i ag sz ht
          have h1 := h.slots c
          rw [hg] at h1
          obtain ⟨v, hv, hrep⟩ := load_place (place_box h1 (h.inv.objs k _ ho)) ht hr
          refine ⟨v, ?_, hrep⟩
          show (do loadVar t (← asAddr (a.tmps.getD c undef)) : Sem Value).run Γ.P w = .ok v w
          generalize a.tmps.getD c undef = p at h1 hv ⊢
          cases h1 with
          | ptr e => simpa [asAddr, Instr.loadAt, Instr.sureAddr] using hv
        · simp at hr
      · simp at hr
    · simp at hr

theorem run_resL {Γ : Ctx} {κ : Nat → Option KI} {I : Nat → Prop} {s : AState} {a : Act} {w : World} (h : Rel Γ κ I s a w) : ∀ {l : List ResultVar} {rs : List AVal}, resL Γ.P s l = some rs →
    ∃ vs : List Value, (l.mapM (resRun a.tmps)).run Γ.P w = .ok vs w ∧
      vs.length = rs.length ∧ ∀ j (h : j < rs.length) (h' : j < vs.length), Rep w I κ (rs[j]) (vs[j]) := by
  intro l
  induction l with
  | nil => intro rs hr; obtain rfl := Option.some.inj hr; exact ⟨[], by simp, rfl, fun j h => absurd h (Nat.not_lt_zero _)⟩
  | cons x l ih =>
    intro rs hr
    simp only [resL] at hr
    split at hr
    · rename_i y l' h1 h2
      obtain rfl := Option.some.inj hr
      obtain ⟨v, hv, hrep⟩ := run_resA h h1
      obtain ⟨vs, hvs, hlen, hreps⟩ := ih h2
      refine ⟨v :: vs, ?_, by simp [hlen], fun j h h' => ?_⟩
      · rw [List.mapM_cons, Sem.run_bind, hv]
        simp only [Result.andThen_ok, Sem.run_bind, hvs, Sem.run_pure]
      · cases j with
        | zero => exact hrep
        | succ j => exact hreps j (by simpa using h) (by simpa using h')
    · simp at hr

theorem run_resOf {Γ : Ctx} {κ : Nat → Option KI} {I : Nat → Prop} {s : AState} {a : Act} {w : World} (h : Rel Γ κ I s a w) {fn : Func} {r : AVal} (hr : resOf Γ.P fn s = some r) :
    ∃ v, (results fn a.tmps).run Γ.P w = .ok v w ∧ Rep w I κ r v := by
  unfold resOf at hr
  have key : ∀ rs, resL Γ.P s fn.results.toList = some rs → ∃ vs : List Value, (results fn a.tmps).run Γ.P w = .ok (if h : vs.toArray.size = 1 then vs.toArray[0] else .tuple vs.toArray) w ∧
      vs.length = rs.length ∧ ∀ j (h : j < rs.length) (h' : j < vs.length), Rep w I κ (rs[j]) (vs[j]) := by
    intro rs hrs
    obtain ⟨vs, hvs, hlen, hreps⟩ := run_resL h hrs
    refine ⟨vs, ?_, hlen, hreps⟩
    rw [results_eq, Sem.run_bind, Array.mapM_eq_mapM_toList, Sem.run_map, hvs]
    rfl
  split at hr
  · rename_i r' hrs
    obtain rfl := Option.some.inj hr
    obtain ⟨vs, hvs, hlen, hreps⟩ := key _ hrs
    obtain ⟨v, rfl⟩ : ∃ v, vs = [v] := by
      match vs, hlen with
      | [v], _ => exact ⟨v, rfl⟩
    exact ⟨v, by rw [hvs]; rfl, hreps 0 (by simp) (by simp)⟩
  · rename_i l hne hrs
    obtain rfl := Option.some.inj hr
    obtain ⟨vs, hvs, hlen, hreps⟩ := key _ hrs
    refine ⟨.tuple vs.toArray, ?_, .tup hlen hreps⟩
    rw [hvs, dif_neg]
    intro e
    simp only [List.size_toArray] at e
    match l, hlen with
    | [], hl => rw [hl] at e; simp at e
    | [x], _ => exact hne x rfl
    | x :: y :: r, hl => rw [hl] at e; simp at e
  · simp at hr

/-! ### A function by its body -/
def argSlots : List AVal → Nat → List (Nat × AVal)
  | [], _ => []
  | x :: r, i => (i, x) :: argSlots r (i + 1)

theorem argSlots_look : ∀ (l : List AVal) (i x : Nat), look (argSlots l i) x = if i ≤ x then l[x - i]? else none := by
  intro l
  induction l with
  | nil => intro i x; simp [argSlots, look]
  | cons y r ih =>
    intro i x
    rw [argSlots, look_cons, ih]
    by_cases e : i = x
    · subst e; simp
    · rw [if_neg e]
      by_cases h : i ≤ x
      · rw [if_pos h, if_pos (by omega)]
        obtain ⟨m, rfl⟩ : ∃ m, x = i + 1 + m := ⟨x - (i + 1), by omega⟩
        rw [show i + 1 + m - i = m + 1 from by omega, show i + 1 + m - (i + 1) = m from by omega]; simp
      · rw [if_neg h, if_neg (by omega)]

def retQ (P : Program) (fn : Func) (Q : AVal → List (Nat × Option MObj) → Prop) (floor : Nat) (e : Exit) (s : AState) : Prop :=
  (e = .ret ∨ e = .normal) ∧ s.floor = floor ∧ ∃ r, resOf P fn s = some r ∧ Q r s.objs

theorem Fn.body {P : Program} {f : FuncId} {fn : Func} {c : Code} {args : List AVal} {objs : List (Nat × Option MObj)} {floor : Nat} {Q : AVal → List (Nat × Option MObj) → Prop}
    (hf : P.funcs[f]? = some fn) (hb : fn.body = some c) (hn : Nat.ble args.length fn.ntmps = true)
    (h : ∀ Γ : Ctx, Γ.P = P → Γ.n = fn.ntmps → AWp Γ c (retQ P fn Q floor) ⟨argSlots args 0, objs, floor⟩) : Fn P f args objs floor Q := by
  intro κ I w vs hl hreps hinv
  have hle : args.length ≤ fn.ntmps := Nat.le_of_ble_eq_true hn
  refine calls_of_wp hf hb ?_
  let Γ : Ctx := entryCtx P fn.ntmps κ I ⟨[], objs, floor⟩ w
  have hsat : Sat Γ ⟨argSlots args 0, objs, floor⟩ { tmps := vs.toArray ++ Array.replicate (fn.ntmps - vs.toArray.size) undef, defers := [] } w := by
    refine ⟨κ, I, ?_, rfl, fun x => ?_, ⟨hinv.objs, hinv.inj, hinv.disj, hinv.bound, hinv.keep, hinv.ikeep, hinv.fromI, hinv.fromO, hinv.fix⟩⟩
    · show (vs.toArray ++ Array.replicate (fn.ntmps - vs.toArray.size) undef).size = fn.ntmps
      simp [hl]; omega
    · show Rep w I κ ((look (argSlots args 0) x).getD .top) _
      rw [argSlots_look, if_pos (Nat.zero_le _), Nat.sub_zero]
      by_cases hx : x < args.length
      · rw [List.getElem?_eq_getElem hx]
        have : (vs.toArray ++ Array.replicate (fn.ntmps - vs.toArray.size) undef).getD x undef = vs[x]'(by omega) := by
          rw [Array.getD_eq_getD_getElem?, Array.getElem?_append_left (by simp; omega)]
          simp [hl, hx]
        rw [this]
        exact hreps x hx (by omega)
      · rw [List.getElem?_eq_none (by omega)]; exact .top _
  refine Code.wp_mono (fun e a' w' ⟨s', h1, h2⟩ => ?_) (h Γ rfl rfl _ _ hsat)
  obtain ⟨he, hfl, r, hr, hq⟩ := h2
  obtain ⟨κ', I', hrel⟩ := h1
  obtain ⟨v, hv, hrep⟩ := run_resOf hrel hr
  have hinv' : Inv (entryCtx P 0 κ I ⟨[], objs, floor⟩ w) κ' I' ⟨[], s'.objs, floor⟩ w' :=
    ⟨hrel.inv.objs, hrel.inv.inj, hrel.inv.disj, hrel.inv.bound, hrel.inv.keep, hrel.inv.ikeep, hrel.inv.fromI, hrel.inv.fromO, fun k hk => hrel.inv.fix k (by rw [hfl]; exact hk)⟩
  rcases he with rfl | rfl
  · exact ⟨hrel.defers, v, hv, v, r, s'.objs, κ', I', rfl, hq, hrep, hinv'⟩
  · exact ⟨hrel.defers, v, hv, v, r, s'.objs, κ', I', rfl, hq, hrep, hinv'⟩

end Go.Pv
