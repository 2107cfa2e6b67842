import Derived.Test.YticdbkmekkbiiaaPvBase
set_option linter.unusedVariables false
set_option linter.unusedSimpArgs false
/-! Regions: operations with local specifications, in the text's order and in every order that the edges allow. -/
namespace Go.Pv

/-- What an operation needs and does: values of slots, objects, keys that it makes, its result, the objects behind it. -/
structure Sp where
  vals : List (Nat × AVal)
  pre : List (Nat × Option MObj)
  news : List Nat
  res : AVal
  post : List (Nat × Option MObj)

def Sp.needs (sp : Sp) (s : AState) : Prop := (∀ p ∈ sp.vals, s.get p.1 = p.2) ∧ ∀ p ∈ sp.pre, s.obj p.1 = p.2
def Sp.act (sp : Sp) (d : Option Nat) (s : AState) : AState := (s.objput sp.post).put d sp.res

def OpOK (P : Program) (o : Oper) (sp : Sp) : Prop :=
  ∀ (Γ : Ctx), Γ.P = P → (∀ d, o.dst = some d → d < Γ.n) → ∀ (s : AState) (a : Act) (w : World), Sat Γ s a w → sp.needs s → (∀ k ∈ sp.news, s.fresh k) →
    ∀ (K : Act → World → Prop) (Q : Exit → Act → World → Prop), (∀ a' w', Sat Γ (sp.act o.dst s) a' w' → K a' w') → o.wp P a w K Q

inductive Move where
  | skip
  | run (sp : Sp)

abbrev Item := Oper × Move

def guardSlot (ops : Array Oper) (o : Oper) : Option (Nat × Bool) :=
  match o.guard with
  | none => none
  | some (j, want) => match (ops[j]?).bind (·.dst) with
    | some d => some (d, want)
    | none => some (0, want)

/-- Whether an operation is wanted, as far as the state tells. -/
def goes (ops : Array Oper) (o : Oper) (s : AState) (go : Bool) : Prop :=
  match o.guard with
  | none => go = true
  | some (j, want) => ∃ d v, (ops[j]?).bind (·.dst) = some d ∧ s.get d = .im (.sc v) ∧ go = (match v with | .bool b => b == want | _ => false)

def Item.valid (P : Program) (ops : Array Oper) (it : Item) (s : AState) : Prop :=
  match it.2 with
  | .skip => goes ops it.1 s false
  | .run sp => goes ops it.1 s true ∧ sp.needs s ∧ OpOK P it.1 sp
def Item.step (it : Item) (s : AState) : AState :=
  match it.2 with
  | .skip => s.put it.1.dst (.im (.sc undef))
  | .run sp => sp.act it.1.dst s
def Item.news (it : Item) : List Nat :=
  match it.2 with
  | .skip => []
  | .run sp => sp.news

theorem wanted_of_goes {Γ : Ctx} {ops : Array Oper} {o : Oper} {s : AState} {a : Act} {w : World} {go : Bool} (hs : Sat Γ s a w) (hn : ∀ (j : Nat) (o' : Oper), ops[j]? = some o' → ∀ d, o'.dst = some d → d < Γ.n) (h : goes ops o s go) :
    Region.wanted o (yielded ops a.tmps) = go := by
  unfold goes at h
  unfold Region.wanted
  cases hg : o.guard with
  | none => rw [hg] at h; exact h.symm
  | some p =>
    obtain ⟨j, want⟩ := p
    rw [hg] at h
    obtain ⟨d, v, hd, hv, rfl⟩ := h
    obtain ⟨κ, I, hr⟩ := hs
    have hlt : d < Γ.n := by
      cases ho : ops[j]? with
      | none => rw [ho] at hd; simp at hd
      | some o' => rw [ho] at hd; exact hn j o' ho d (by simpa using hd)
    have hval : a.tmps.getD d undef = v := (hv ▸ hr.slots d).sc_inv
    have : a.tmps[d]? = some v := by
      have hsz : d < a.tmps.size := by rw [hr.size]; exact hlt
      rw [Array.getElem?_eq_getElem hsz]
      simp [Array.getD, hsz] at hval
      rw [hval]
    simp only [yielded, hd, Option.bind_some, this]
    cases v with
    | bool b => cases b <;> cases want <;> rfl
    | _ => cases want <;> rfl

theorem Sat.put_top {Γ : Ctx} {s : AState} {a : Act} {w : World} (h : Sat Γ s a w) (d : Option Nat) (hlt : ∀ x, d = some x → x < Γ.n) (v : Value) : Sat Γ (s.put d (.im (.sc v))) (a.put d v) w := by
  obtain ⟨κ, I, hr⟩ := h
  cases d with
  | none => exact ⟨κ, I, hr⟩
  | some d =>
    refine ⟨κ, I, by simpa [Act.put] using hr.size, hr.defers, fun x => ?_, hr.inv.eqv (fun k o hk => by rw [AState.obj_put] at hk; exact hk) rfl⟩
    rw [AState.get_put]
    by_cases e : d = x
    · rw [if_pos e]
      have hsz : d < a.tmps.size := by rw [hr.size]; exact hlt d rfl
      have : (a.put (some d) v).tmps.getD x undef = v := by subst e; simp [Act.put, hsz]
      rw [this]; exact .im (.sc v)
    · rw [if_neg e]
      have : (a.put (some d) v).tmps.getD x undef = a.tmps.getD x undef := by simp [Act.put, Array.getD_eq_getD_getElem?, Array.getElem?_setIfInBounds, e]
      rw [this]; exact hr.slots x

/-- One item, as the region runs it. -/
theorem wp_item {Γ : Ctx} {ops : Array Oper} {it : Item} {s : AState} {a : Act} {w : World} {K : Act → World → Prop} {Q : Exit → Act → World → Prop}
    (hn : ∀ (j : Nat) (o' : Oper), ops[j]? = some o' → ∀ d, o'.dst = some d → d < Γ.n) (hd : ∀ d, it.1.dst = some d → d < Γ.n) (hs : Sat Γ s a w) (hv : it.valid Γ.P ops s) (hf : ∀ k ∈ it.news, s.fresh k)
    (hK : ∀ a' w', Sat Γ (it.step s) a' w' → K a' w') :
    if Region.wanted it.1 (yielded ops a.tmps) then it.1.wp Γ.P a w K Q ∨ (it.1.asks Γ.P a w ∧ LetsOut Q) else K (a.put it.1.dst undef) w := by
  obtain ⟨o, m⟩ := it
  cases m with
  | skip =>
    rw [wanted_of_goes hs hn (go := false) hv]
    exact hK _ _ (hs.put_top o.dst hd undef)
  | run sp =>
    obtain ⟨h1, h2, h3⟩ := hv
    rw [wanted_of_goes hs hn h1]
    exact .inl (h3 Γ rfl hd s a w hs h2 hf K Q hK)

/-! ### In the text's order -/
def validAll (P : Program) (ops : Array Oper) : List Item → AState → Prop
  | [], _ => True
  | it :: r, s => it.valid P ops s ∧ (∀ k ∈ it.news, s.fresh k) ∧ validAll P ops r (it.step s)
def stepAll : List Item → AState → AState
  | [], s => s
  | it :: r, s => stepAll r (it.step s)

theorem wp_items {Γ : Ctx} {ops : Array Oper} {Q : Exit → Act → World → Prop} (hn : ∀ (j : Nat) (o' : Oper), ops[j]? = some o' → ∀ d, o'.dst = some d → d < Γ.n) :
    ∀ (l : List Item) (hl : ∀ it ∈ l, ∀ d, it.1.dst = some d → d < Γ.n) (s : AState) (a : Act) (w : World), Sat Γ s a w → validAll Γ.P ops l s →
      (∀ a' w', Sat Γ (stepAll l s) a' w' → Q .normal a' w') → wpList Γ.P ops Q (l.map (·.1)) a w := by
  intro l
  induction l with
  | nil => intro _ s a w hs _ hq; exact hq _ _ hs
  | cons it r ih =>
    intro hl s a w hs hv hq
    obtain ⟨h1, h2, h3⟩ := hv
    exact wp_item hn (hl it (by simp)) hs h1 h2 (fun a' w' hs' => ih (fun x hx => hl x (by simp [hx])) _ _ _ hs' h3 hq)

theorem region_plain {Γ : Ctx} {id : Nat} {Q : Exit → AState → Prop} {s : AState} (items : List Item)
    (hd : items.all (fun it => match it.1.dst with | some d => Nat.blt d Γ.n | none => true) = true)
    (hv : validAll Γ.P (items.map (·.1)).toArray items s) (hq : Q .normal (stepAll items s)) : AWp Γ (.region id (items.map (·.1)).toArray false) Q s := by
  have hl : ∀ it ∈ items, ∀ d, it.1.dst = some d → d < Γ.n := by
    intro it hit d e
    have := List.all_eq_true.1 hd it hit
    rw [e] at this
    simpa [Nat.blt_eq] using this
  intro a w hs
  refine wp_region_lit (wp_items ?_ items hl s a w hs hv (fun a' w' h => ⟨_, h, hq⟩))
  intro j o' ho d e
  have : o' ∈ items.map (·.1) := by
    have := Array.mem_of_getElem? ho
    simpa using this
  obtain ⟨it, hit, rfl⟩ := List.mem_map.1 this
  exact hl it hit d e

end Go.Pv
