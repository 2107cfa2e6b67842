import Derived.Test.YticdbkmekkbiiaaPvDraw
set_option linter.unusedVariables false
set_option linter.unusedSimpArgs false
/-! Operations: what each does to the abstract state. -/
namespace Go.Pv

def opSlots (s : AState) (o : Oper) : List (Nat × AVal) := o.op.operands.toList.filterMap fun x => match x with
  | .tmp t => some (t, s.get t)
  | _ => none

/-- The specification of an operation at a state. -/
def mkSp (s : AState) (o : Oper) (keys : List Nat) (news : List Nat) (res : AVal) (post : List (Nat × Option MObj)) : Sp :=
  { vals := opSlots s o, pre := keys.map fun k => (k, s.obj k), news, res, post }

theorem mkSp_needs (s : AState) (o : Oper) (keys news : List Nat) (res : AVal) (post : List (Nat × Option MObj)) : (mkSp s o keys news res post).needs s := by
  constructor
  · intro p hp
    obtain ⟨x, _, hx⟩ := List.mem_filterMap.1 hp
    cases x <;> simp at hx
    subst hx; rfl
  · intro p hp
    obtain ⟨k, _, rfl⟩ := List.mem_map.1 hp
    rfl

theorem needs_eval {s s2 : AState} {o : Oper} {keys news : List Nat} {res : AVal} {post : List (Nat × Option MObj)} (h : (mkSp s o keys news res post).needs s2) (x : Operand)
    (hx : x ∈ o.op.operands.toList) : s2.eval x = s.eval x := by
  cases x with
  | tmp t => exact h.1 (t, s.get t) (List.mem_filterMap.2 ⟨.tmp t, hx, rfl⟩)
  | _ => rfl
theorem needs_obj {s s2 : AState} {o : Oper} {keys news : List Nat} {res : AVal} {post : List (Nat × Option MObj)} (h : (mkSp s o keys news res post).needs s2) (k : Nat)
    (hk : k ∈ keys) : s2.obj k = s.obj k := h.2 (k, s.obj k) (List.mem_map.2 ⟨k, hk, rfl⟩)

def Gives (v : Value) (nx : Next) : Prop := nx = .value v ∨ nx = .skip ∧ v = undef

/-- An operation by what its run comes to. -/
theorem OpOK.of {P : Program} {o : Oper} {sp : Sp}
    (h : ∀ (Γ : Ctx) (κ : Nat → Option KI) (I : Nat → Prop) (s : AState) (a : Act) (w : World), Γ.P = P → Rel Γ κ I s a w → sp.needs s → (∀ k ∈ sp.news, s.fresh k) →
      ∃ v nx w' κ' I', Gives v nx ∧ (execOp a.eval o).run P w = .ok nx w' ∧ Inv Γ κ' I' (s.objput sp.post) w' ∧ (∀ b, I b → I' b) ∧ (∀ b, I b → w'.heap[b]? = w.heap[b]?) ∧
        (∀ x k, (s.get x).has k = true → κ' k = κ k) ∧ Rep w' I' κ' sp.res v) : OpOK P o sp := by
  intro Γ hP hd s a w ⟨κ, I, hr⟩ hn hf K Q hK
  obtain ⟨v, nx, w', κ', I', hg, hrun, hinv, hI, hw, hk, hres⟩ := h Γ κ I s a w hP hr hn hf
  have hsat : Sat Γ (sp.act o.dst s) (a.put o.dst v) w' := by
    have hinv' : Inv Γ κ' I' (sp.act o.dst s) w' := hinv.eqv (fun k o' hk => by rwa [Sp.act, AState.obj_put] at hk) (by cases hd' : o.dst <;> simp [Sp.act, AState.put, AState.objput, hd'])
    cases hdst : o.dst with
    | none =>
      refine ⟨κ', I', hr.size, hr.defers, fun x => (hr.slots x).mono hI hw (hk x), hdst ▸ hinv'⟩
    | some d =>
      have hlt := hd d hdst
      refine ⟨κ', I', by simpa [Act.put] using hr.size, hr.defers, fun x => ?_, hdst ▸ hinv'⟩
      show Rep w' I' κ' (((s.objput sp.post).put (some d) sp.res).get x) _
      rw [AState.get_put]
      by_cases e : d = x
      · subst e
        rw [if_pos rfl]
        have : (a.put (some d) v).tmps.getD d undef = v := by
          have hsz : d < a.tmps.size := by rw [hr.size]; exact hlt
          simp [Act.put, hsz]
        rw [this]; exact hres
      · rw [if_neg e]
        have : (a.put (some d) v).tmps.getD x undef = a.tmps.getD x undef := by simp [Act.put, Array.getD_eq_getD_getElem?, Array.getElem?_setIfInBounds, e]
        rw [this]; exact (hr.slots x).mono hI hw (hk x)
  show o.upon P a K Q ((execOp a.eval o).run P w)
  rw [hrun]
  rcases hg with rfl | ⟨rfl, rfl⟩
  · exact hK _ _ hsat
  · exact hK _ _ hsat

/-- One that reads only. -/
theorem OpOK.quiet {P : Program} {o : Oper} {sp : Sp} (hpost : sp.post = [])
    (h : ∀ (Γ : Ctx) (κ : Nat → Option KI) (I : Nat → Prop) (s : AState) (a : Act) (w : World), Γ.P = P → Rel Γ κ I s a w → sp.needs s →
      ∃ v, (execOp a.eval o).run P w = .ok (.value v) w ∧ Rep w I κ sp.res v) : OpOK P o sp :=
  .of fun Γ κ I s a w hP hr hn _ => by
    obtain ⟨v, hrun, hres⟩ := h Γ κ I s a w hP hr hn
    exact ⟨v, _, w, κ, I, .inl rfl, hrun, hr.inv.eqv (fun k o hk => by rw [hpost] at hk; exact hk) rfl, fun _ h => h, fun _ _ => rfl, fun _ _ _ => rfl, hres⟩

/-! ### Moves -/
theorem ok_move {P : Program} {o : Oper} {s : AState} {x : Operand} (ho : o.op = .move x ∨ o.op = .assign x) : OpOK P o (mkSp s o [] [] (s.eval x) []) :=
  .quiet rfl fun Γ κ I s2 a w hP hr hn => by
    refine ⟨a.eval x, ?_, ?_⟩
    · rcases ho with ho | ho <;> simp [execOp, ho]
    · have := hr.eval x
      rwa [needs_eval hn x (by rcases ho with ho | ho <;> simp [ho, Op.operands])] at this

def pickA (b : Bool) (x y : AVal) : AVal := match b with
  | true => x
  | false => y

theorem ok_pick {P : Program} {o : Oper} {s : AState} {c x y : Operand} {b : Bool} (ho : o.op = .pick c x y) (hc : s.eval c = .im (.sc (.bool b))) :
    OpOK P o (mkSp s o [] [] (pickA b (s.eval x) (s.eval y)) []) :=
  .quiet rfl fun Γ κ I s2 a w hP hr hn => by
    have hc' : a.eval c = .bool b := (by have := hr.eval c; rw [needs_eval hn c (by simp [ho, Op.operands]), hc] at this; exact this.sc_inv)
    refine ⟨if b then a.eval x else a.eval y, by simp [execOp, ho, hc', asBool], ?_⟩
    cases b with
    | true => have := hr.eval x; rwa [needs_eval hn x (by simp [ho, Op.operands])] at this
    | false => have := hr.eval y; rwa [needs_eval hn y (by simp [ho, Op.operands])] at this

/-! ### Scalars -/
/-- An operation on values without memory. -/
theorem ok_pure {P : Program} {o : Oper} {s : AState} (r : Value) (xs : List (Operand × Value)) (hx : ∀ p ∈ xs, p.1 ∈ o.op.operands.toList ∧ s.eval p.1 = .im (.sc p.2))
    (hrun : ∀ (ρ : Operand → Value), (∀ p ∈ xs, ρ p.1 = p.2) → ∀ w, (execOp ρ o).run P w = .ok (.value r) w) : OpOK P o (mkSp s o [] [] (.im (.sc r)) []) :=
  .quiet rfl fun Γ κ I s2 a w hP hr hn => by
    refine ⟨r, hrun a.eval (fun p hp => ?_) w, .im (.sc r)⟩
    have := hr.eval p.1
    rw [needs_eval hn p.1 (hx p hp).1, (hx p hp).2] at this
    exact this.sc_inv

def binInt (op : BinOp) (k : IntKind) (a b : Int) : Option Value :=
  match op with
  | .add => some (.int k (k.wrap (a + b)))
  | .sub => some (.int k (k.wrap (a - b)))
  | .mul => some (.int k (k.wrap (a * b)))
  | .eql => some (.bool (a == b))
  | .neq => some (.bool (a != b))
  | .lss => some (.bool (decide (a < b)))
  | .leq => some (.bool (decide (a ≤ b)))
  | .gtr => some (.bool (decide (a > b)))
  | .geq => some (.bool (decide (a ≥ b)))
  | _ => none

theorem run_binInt {P : Program} {op : BinOp} {k : IntKind} {a b : Int} {r : Value} (h : binInt op k a b = some r) (t : TypeId) (x y : Operand) (w : World) :
    (do eqGuard op t x y (.int k a) (.int k b); binOp op t (.int k a) (.int k b) : Sem Value).run P w = .ok r w := by
  cases op <;> simp [binInt] at h <;> subst h <;> simp [eqGuard, binOp, Op.intArith, Op.intCmp]

theorem ok_binInt {P : Program} {o : Oper} {s : AState} {op : BinOp} {t t2 : TypeId} {x y : Operand} {k : IntKind} {a b : Int} {r : Value} (ho : o.op = .binOp op t x y t2)
    (hx : s.eval x = .im (.sc (.int k a))) (hy : s.eval y = .im (.sc (.int k b))) (h : binInt op k a b = some r) : OpOK P o (mkSp s o [] [] (.im (.sc r)) []) :=
  ok_pure r [(x, .int k a), (y, .int k b)] (by simp [ho, Op.operands, hx, hy]) (fun ρ hρ w => by
    have h1 := hρ (x, .int k a) (by simp)
    have h2 := hρ (y, .int k b) (by simp)
    simp only [execOp, ho]
    rw [Sem.run_bind, h1, h2, run_binInt h]; rfl)

end Go.Pv
