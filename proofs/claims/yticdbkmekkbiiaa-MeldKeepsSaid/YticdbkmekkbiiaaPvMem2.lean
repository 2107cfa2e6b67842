import Derived.Test.YticdbkmekkbiiaaPvMem
set_option linter.unusedVariables false
set_option linter.unusedSimpArgs false
namespace Go.Pv

def setK (κ : Nat → Option KI) (k : Nat) (ki : Option KI) : Nat → Option KI := fun k' => if k' = k then ki else κ k'
theorem setK_self (κ : Nat → Option KI) (k : Nat) (ki : Option KI) : setK κ k ki k = ki := by simp [setK]
theorem setK_ne (κ : Nat → Option KI) (k : Nat) (ki : Option KI) {k' : Nat} (h : k' ≠ k) : setK κ k ki k' = κ k' := by simp [setK, h]

def World.alloc' (w : World) (o : Obj) : World := { w with heap := w.heap.push o }
theorem alloc_get (w : World) (o : Obj) (b : Nat) (h : b < w.heap.size) : (World.alloc' w o).heap[b]? = w.heap[b]? := by
  show (w.heap.push o)[b]? = _
  rw [Array.getElem?_push, if_neg (by omega)]
theorem alloc_new (w : World) (o : Obj) : (World.alloc' w o).heap[w.heap.size]? = some o := by
  show (w.heap.push o)[w.heap.size]? = _
  rw [Array.getElem?_push, if_pos rfl]
theorem alloc_size (w : World) (o : Obj) : (World.alloc' w o).heap.size = w.heap.size + 1 := by
  show (w.heap.push o).size = _
  rw [Array.size_push]

theorem Inv.kill {Γ : Ctx} {κ : Nat → Option KI} {I : Nat → Prop} {s : AState} {w : World} (h : Inv Γ κ I s w) (l : List (Nat × Option MObj)) (hl : ∀ p ∈ l, p.2 = none) : Inv Γ κ I (s.objput l) w := by
  refine h.eqv (fun k o hk => ?_) rfl
  · skip
    rw [AState.obj_objput] at hk
    cases e : look l k with
    | none => rw [e] at hk; exact hk
    | some v =>
      rw [e] at hk
      have hv : v = some o := hk
      have : ∀ (l : List (Nat × Option MObj)), look l k = some v → ∃ p ∈ l, p.2 = v := by
        intro l
        induction l with
        | nil => intro h; simp [look] at h
        | cons p l ih =>
          obtain ⟨i, u⟩ := p
          intro h
          rw [look_cons] at h
          by_cases e : i = k
          · rw [if_pos e] at h; exact ⟨(i, u), by simp, by simpa using h⟩
          · rw [if_neg e] at h; obtain ⟨p, hp, e⟩ := ih h; exact ⟨p, by simp [hp], e⟩
      obtain ⟨p, hp, e'⟩ := this l e
      rw [← e', hl p hp] at hv; simp at hv

/-- A new object in a new block. -/
theorem Inv.alloc {Γ : Ctx} {κ : Nat → Option KI} {I : Nat → Prop} {s : AState} {w : World} {k : Nat} {o' : MObj} {ki : KI} {ob : Obj} (h : Inv Γ κ I s w)
    (hf : s.fresh k) (hb : ki.b = w.heap.size) (ho' : ORep (World.alloc' w ob) I (setK κ k (some ki)) ki o') :
    Inv Γ (setK κ k (some ki)) I (s.objput [(k, some o')]) (World.alloc' w ob) ∧ (∀ b, I b → (World.alloc' w ob).heap[b]? = w.heap[b]?) ∧
      ∀ x k', (s.get x).has k' = true → setK κ k (some ki) k' = κ k' := by
  have hI : ∀ b, I b → (World.alloc' w ob).heap[b]? = w.heap[b]? := fun b hb' => alloc_get _ _ _ (h.bound b hb')
  have hκ' : ∀ k', k' ≠ k → setK κ k (some ki) k' = κ k' := fun k' hk => setK_ne _ _ _ hk
  have hobj : ∀ k' o'', (s.objput [(k, some o')]).obj k' = some o'' → (k' = k ∧ o'' = o') ∨ (k' ≠ k ∧ s.obj k' = some o'') := by
    intro k' o'' e
    rw [AState.obj_objput, look_cons] at e
    by_cases ek : k = k'
    · rw [if_pos ek] at e; simp at e; exact .inl ⟨ek.symm, e.symm⟩
    · rw [if_neg ek] at e; exact .inr ⟨fun h => ek h.symm, e⟩
  have hlt : ∀ k' o'' ki', s.obj k' = some o'' → κ k' = some ki' → ki'.b < w.heap.size := by
    intro k' o'' ki' e eκ
    have := h.objs k' o'' e
    simp only [OAt, eκ] at this
    cases o'' with
    | row => obtain ⟨_, _, _, arr, h3, _⟩ := this; exact (Array.getElem?_eq_some_iff.1 h3).1
    | box => obtain ⟨_, _, arr, h3, _⟩ := this; exact (Array.getElem?_eq_some_iff.1 h3).1
  refine ⟨⟨?_, ?_, ?_, ?_, ?_, h.ikeep, h.fromI, ?_, fun k' hk' => (hκ' k' (fun e => by have := hf.2.2.2; rw [e] at hk'; exact absurd hk' (by simp only [AState.objput]; omega))).trans (h.fix k' hk')⟩, hI, fun x k' hx => hκ' k' (fun e => by rw [e, hf.1 x] at hx; simp at hx)⟩
  · intro k' o'' e
    rcases hobj k' o'' e with ⟨rfl, rfl⟩ | ⟨hkk, e⟩
    · simp only [OAt, setK_self]; exact ho'
    · have := h.objs k' o'' e
      unfold OAt at this ⊢
      rw [hκ' k' hkk]
      split
      · rename_i eκ; rw [eκ] at this; exact this
      · rename_i ki' eκ
        rw [eκ] at this
        exact this.mono (fun _ h => h) hI (alloc_get _ _ _ (hlt k' o'' ki' e eκ)) (fun k2 h2 => hκ' k2 (fun e2 => by rw [e2, hf.2.1 k' o'' e] at h2; simp at h2))
  · intro k1 k2 o1 o2 ki1 ki2 e1 e2 f1 f2 hbb
    rcases hobj k1 o1 e1 with ⟨q1, _⟩ | ⟨h1, g1⟩ <;> rcases hobj k2 o2 e2 with ⟨q2, _⟩ | ⟨h2, g2⟩
    · rw [q1, q2]
    · rw [q1, setK_self] at f1; rw [hκ' _ h2] at f2
      obtain rfl := Option.some.inj f1
      have := hlt k2 o2 ki2 g2 f2; omega
    · rw [q2, setK_self] at f2; rw [hκ' _ h1] at f1
      obtain rfl := Option.some.inj f2
      have := hlt k1 o1 ki1 g1 f1; omega
    · rw [hκ' _ h1] at f1; rw [hκ' _ h2] at f2
      exact h.inj k1 k2 o1 o2 ki1 ki2 g1 g2 f1 f2 hbb
  · intro k1 o1 ki1 e1 f1 hIb
    rcases hobj k1 o1 e1 with ⟨rfl, rfl⟩ | ⟨h1, e1⟩
    · rw [setK_self] at f1; obtain rfl := Option.some.inj f1
      have := h.bound _ hIb; omega
    · rw [hκ' _ h1] at f1; exact h.disj k1 o1 ki1 e1 f1 hIb
  · intro b hb'; have := h.bound b hb'; rw [alloc_size]; omega
  · exact ⟨h.keep.os, h.keep.tape, h.keep.output, by have := h.keep.size; rw [alloc_size]; omega, fun b hb' hn => by
      rw [alloc_get _ _ _ (Nat.lt_of_lt_of_le hb' h.keep.size), h.keep.block b hb' hn]⟩
  · intro k1 o1 ki1 e1 f1
    rcases hobj k1 o1 e1 with ⟨rfl, rfl⟩ | ⟨h1, e1⟩
    · rw [setK_self] at f1; obtain rfl := Option.some.inj f1
      exact .inr (by rw [hb]; exact h.keep.size)
    · rw [hκ' _ h1] at f1; exact h.fromO k1 o1 ki1 e1 f1

/-- An object's block under a new key; the elder key is dead. -/
theorem Inv.move {Γ : Ctx} {κ : Nat → Option KI} {I : Nat → Prop} {s : AState} {w : World} {k k2 : Nat} {o o' : MObj} {ki ki' : KI} {ob : Obj} (h : Inv Γ κ I s w)
    (hk : s.obj k = some o) (hκ : κ k = some ki) (hf : s.fresh k2) (hb' : ki'.b = ki.b) (ho' : ORep (World.setBlock w ki.b ob) I (setK κ k2 (some ki')) ki' o') :
    Inv Γ (setK κ k2 (some ki')) I (s.objput [(k2, some o'), (k, none)]) (World.setBlock w ki.b ob) ∧ (∀ b, I b → (World.setBlock w ki.b ob).heap[b]? = w.heap[b]?) ∧
      ∀ x k', (s.get x).has k' = true → setK κ k2 (some ki') k' = κ k' := by
  have hkk2 : k ≠ k2 := fun e => by rw [e, hf.2.2.1] at hk; simp at hk
  have hb : ki.b < w.heap.size := by
    have := h.objs k o hk
    simp only [OAt, hκ] at this
    cases o with
    | row => obtain ⟨_, _, _, arr, h3, _⟩ := this; exact (Array.getElem?_eq_some_iff.1 h3).1
    | box => obtain ⟨_, _, arr, h3, _⟩ := this; exact (Array.getElem?_eq_some_iff.1 h3).1
  have hne : ∀ b, b ≠ ki.b → (World.setBlock w ki.b ob).heap[b]? = w.heap[b]? := fun b hb' => by rw [setBlock_get _ _ _ _ hb, if_neg (fun e => hb' e.symm)]
  have hI : ∀ b, I b → (World.setBlock w ki.b ob).heap[b]? = w.heap[b]? := fun b hb' => hne b (fun e => h.disj k o ki hk hκ (e ▸ hb'))
  have hκ' : ∀ k', k' ≠ k2 → setK κ k2 (some ki') k' = κ k' := fun k' hk => setK_ne _ _ _ hk
  have hobj : ∀ k' o'', (s.objput [(k2, some o'), (k, none)]).obj k' = some o'' → (k' = k2 ∧ o'' = o') ∨ (k' ≠ k2 ∧ k' ≠ k ∧ s.obj k' = some o'') := by
    intro k' o'' e
    rw [AState.obj_objput, look_cons, look_cons] at e
    by_cases ek : k2 = k'
    · rw [if_pos ek] at e; simp at e; exact .inl ⟨ek.symm, e.symm⟩
    · rw [if_neg ek] at e
      by_cases ek' : k = k'
      · rw [if_pos ek'] at e; simp at e
      · rw [if_neg ek'] at e; exact .inr ⟨fun h => ek h.symm, fun h => ek' h.symm, e⟩
  refine ⟨⟨?_, ?_, ?_, ?_, ?_, h.ikeep, h.fromI, ?_, fun k' hk' => (hκ' k' (fun e => by have := hf.2.2.2; rw [e] at hk'; exact absurd hk' (by simp only [AState.objput]; omega))).trans (h.fix k' hk')⟩, hI, fun x k' hx => hκ' k' (fun e => by rw [e, hf.1 x] at hx; simp at hx)⟩
  · intro k' o'' e
    rcases hobj k' o'' e with ⟨rfl, rfl⟩ | ⟨h1, h2, e⟩
    · simp only [OAt, setK_self]; exact ho'
    · have := h.objs k' o'' e
      unfold OAt at this ⊢
      rw [hκ' k' h1]
      split
      · rename_i eκ; rw [eκ] at this; exact this
      · rename_i kj eκ
        rw [eκ] at this
        exact this.mono (fun _ h => h) hI (hne _ (fun eb => h2 (h.inj k' k o'' o kj ki e hk eκ hκ eb))) (fun k3 h3 => hκ' k3 (fun e2 => by rw [e2, hf.2.1 k' o'' e] at h3; simp at h3))
  · intro k1 k3 o1 o3 ki1 ki3 e1 e3 f1 f3 hbb
    rcases hobj k1 o1 e1 with ⟨q1, _⟩ | ⟨h1, h1', g1⟩ <;> rcases hobj k3 o3 e3 with ⟨q3, _⟩ | ⟨h3, h3', g3⟩
    · rw [q1, q3]
    · rw [q1, setK_self] at f1; rw [hκ' _ h3] at f3
      obtain rfl := Option.some.inj f1
      exact absurd (h.inj k3 k o3 o ki3 ki g3 hk f3 hκ (by rw [← hbb, hb'])) h3'
    · rw [q3, setK_self] at f3; rw [hκ' _ h1] at f1
      obtain rfl := Option.some.inj f3
      exact absurd (h.inj k1 k o1 o ki1 ki g1 hk f1 hκ (by rw [hbb, hb'])) h1'
    · rw [hκ' _ h1] at f1; rw [hκ' _ h3] at f3
      exact h.inj k1 k3 o1 o3 ki1 ki3 g1 g3 f1 f3 hbb
  · intro k1 o1 ki1 e1 f1 hIb
    rcases hobj k1 o1 e1 with ⟨rfl, rfl⟩ | ⟨h1, _, e1⟩
    · rw [setK_self] at f1; obtain rfl := Option.some.inj f1
      rw [hb'] at hIb; exact h.disj k o ki hk hκ hIb
    · rw [hκ' _ h1] at f1; exact h.disj k1 o1 ki1 e1 f1 hIb
  · intro b hb'; rw [setBlock_size]; exact h.bound b hb'
  · refine ⟨h.keep.os, h.keep.tape, h.keep.output, by rw [setBlock_size]; exact h.keep.size, fun b hb' hn => ?_⟩
    rw [hne b, h.keep.block b hb' hn]
    rintro rfl
    rcases h.fromO k o ki hk hκ with hm | hm
    · exact hn hm
    · omega
  · intro k1 o1 ki1 e1 f1
    rcases hobj k1 o1 e1 with ⟨rfl, rfl⟩ | ⟨h1, _, e1⟩
    · rw [setK_self] at f1; obtain rfl := Option.some.inj f1
      rw [hb']; exact h.fromO k o ki hk hκ
    · rw [hκ' _ h1] at f1; exact h.fromO k1 o1 ki1 e1 f1

/-- A key whose row isn't there yet. -/
theorem Inv.emptyRow {Γ : Ctx} {κ : Nat → Option KI} {I : Nat → Prop} {s : AState} {w : World} {k : Nat} {sz el : Nat} (h : Inv Γ κ I s w) (hf : s.fresh k) :
    Inv Γ (setK κ k none) I (s.objput [(k, some (.row sz el []))]) w ∧ ∀ x k', (s.get x).has k' = true → setK κ k none k' = κ k' := by
  have hκ' : ∀ k', k' ≠ k → setK κ k none k' = κ k' := fun k' hk => setK_ne _ _ _ hk
  have hobj : ∀ k' o'', (s.objput [(k, some (.row sz el []))]).obj k' = some o'' → (k' = k ∧ o'' = .row sz el []) ∨ (k' ≠ k ∧ s.obj k' = some o'') := by
    intro k' o'' e
    rw [AState.obj_objput, look_cons] at e
    by_cases ek : k = k'
    · rw [if_pos ek] at e; simp at e; exact .inl ⟨ek.symm, e.symm⟩
    · rw [if_neg ek] at e; exact .inr ⟨fun h => ek h.symm, e⟩
  have hko : ∀ k' o'' ki, (s.objput [(k, some (.row sz el []))]).obj k' = some o'' → setK κ k none k' = some ki → s.obj k' = some o'' ∧ κ k' = some ki := by
    intro k' o'' ki e f
    rcases hobj k' o'' e with ⟨rfl, rfl⟩ | ⟨h1, e⟩
    · rw [setK_self] at f; simp at f
    · rw [hκ' _ h1] at f; exact ⟨e, f⟩
  refine ⟨⟨?_, ?_, ?_, h.bound, h.keep, h.ikeep, h.fromI, ?_, fun k' hk' => (hκ' k' (fun e => by have := hf.2.2.2; rw [e] at hk'; exact absurd hk' (by simp only [AState.objput]; omega))).trans (h.fix k' hk')⟩, fun x k' hx => hκ' k' (fun e => by rw [e, hf.1 x] at hx; simp at hx)⟩
  · intro k' o'' e
    rcases hobj k' o'' e with ⟨rfl, rfl⟩ | ⟨hkk, e⟩
    · simp only [OAt, setK_self]; exact ⟨sz, el, rfl⟩
    · have := h.objs k' o'' e
      unfold OAt at this ⊢
      rw [hκ' k' hkk]
      split
      · rename_i eκ; rw [eκ] at this; exact this
      · rename_i ki' eκ
        rw [eκ] at this
        exact this.mono (fun _ h => h) (fun _ _ => rfl) rfl (fun k2 h2 => hκ' k2 (fun e2 => by rw [e2, hf.2.1 k' o'' e] at h2; simp at h2))
  · intro k1 k2 o1 o2 ki1 ki2 e1 e2 f1 f2
    obtain ⟨e1, f1⟩ := hko k1 o1 ki1 e1 f1
    obtain ⟨e2, f2⟩ := hko k2 o2 ki2 e2 f2
    exact h.inj k1 k2 o1 o2 ki1 ki2 e1 e2 f1 f2
  · intro k1 o1 ki1 e1 f1
    obtain ⟨e1, f1⟩ := hko k1 o1 ki1 e1 f1
    exact h.disj k1 o1 ki1 e1 f1
  · intro k1 o1 ki1 e1 f1
    obtain ⟨e1, f1⟩ := hko k1 o1 ki1 e1 f1
    exact h.fromO k1 o1 ki1 e1 f1

/-! ### Boxes -/
def valCells : AVal → List AVal
  | .agg cs => cs
  | v => [v]
def leaves : List AVal → Bool
  | [] => true
  | x :: r => x.leaf && leaves r
theorem leaves_get : ∀ {l : List AVal}, leaves l = true → ∀ j (h : j < l.length), (l[j]).leaf = true
  | [], _, j, h => by simp at h
  | x :: r, he, j, h => by
    simp only [leaves, Bool.and_eq_true] at he
    cases j with
    | zero => exact he.1
    | succ j => exact leaves_get he.2 j (by simpa using h)

/-- A value's cells, as they are laid. -/
theorem valCells_rep {w : World} {I : Nat → Prop} {κ : Nat → Option KI} {x : AVal} {v : Value} (h : Rep w I κ x v) (hl : leaves (valCells x) = true) :
    v.cells.size = (valCells x).length ∧ (∀ j (h : j < (valCells x).length), ∃ u, v.cells[j]? = some u ∧ Rep w I κ ((valCells x)[j]) u) ∧ ∀ u ∈ v.cells.toList, leafV u = true := by
  cases x with
  | agg cs =>
    cases h with
    | @agg _ vs hlen hr =>
      simp only [valCells, Value.cells] at *
      refine ⟨by simp [hlen], fun j hj => ⟨vs[j]'(by omega), by simp, hr j hj (by omega)⟩, fun u hu => ?_⟩
      obtain ⟨j, hj, rfl⟩ := List.mem_iff_getElem.1 hu
      exact leaf_rep (hr j (by omega) hj) (leaves_get hl j (by omega))
  | _ =>
    simp only [valCells, leaves, Bool.and_true] at hl
    have hv := leaf_rep h hl
    have : v.cells = #[v] := by cases v <;> first | rfl | simp [leafV] at hv
    simp only [valCells, this]
    refine ⟨rfl, fun j hj => ?_, fun u hu => by simp at hu; rw [hu]; exact hv⟩
    have : j = 0 := by simpa using hj
    subst this
    exact ⟨v, rfl, h⟩

theorem has_valCells {k : Nat} {x : AVal} : hasL k (valCells x) = x.has k := by
  cases x <;> simp [valCells, hasL, AVal.has]

theorem fresh_eval {s : AState} {k : Nat} (h : s.fresh k) (x : Operand) : (s.eval x).has k = false := by
  cases x with
  | tmp t => exact h.1 t
  | const v =>
    have : ∀ v, (leafA v).has k = false := fun v => by unfold leafA; split <;> rfl
    simp only [AState.eval]
    unfold constA
    split
    · rename_i cs
      simp only [AVal.has]
      generalize cs.toList = l
      induction l with
      | nil => rfl
      | cons v r ih => simp [hasL, this, ih]
    · exact this _
  | _ => rfl

theorem ok_box {P : Program} {o : Oper} {s : AState} {t : TypeId} {x : Operand} (k : Nat) (ho : o.op = .box t x) (hl : leaves (valCells (s.eval x)) = true) :
    OpOK P o (mkSp s o [] [k] (.ptr k 0 0) [(k, some (.box t (valCells (s.eval x))))]) :=
  .of fun Γ κ I s2 a w hP hr hn hf => by
    have hfk := hf k (by simp [mkSp])
    have hx := hr.eval x
    have hse := needs_eval hn x (by simp [ho, Op.operands])
    rw [hse] at hx
    obtain ⟨h1, h2, h3⟩ := valCells_rep hx hl
    let ki : KI := ⟨w.heap.size, 1, (valCells (s.eval x)).length, 1⟩
    have hcs : ORep (World.alloc' w (.cells (a.eval x).cells t)) I (setK κ k (some ki)) ki (.box t (valCells (s.eval x))) := by
      refine ⟨rfl, rfl, (a.eval x).cells, alloc_new _ _, h1, fun j hj => ?_⟩
      obtain ⟨u, e, r⟩ := h2 j hj
      refine ⟨u, e, r.mono (fun _ h => h) (fun b hb => alloc_get _ _ _ (hr.inv.bound b hb)) (fun k' hk' => setK_ne _ _ _ ?_)⟩
      rintro rfl
      have : hasL k' (valCells (s.eval x)) = false := by rw [has_valCells, ← hse]; exact fresh_eval hfk x
      rw [hasL_get this j hj] at hk'; simp at hk'
    obtain ⟨g1, g2, g3⟩ := hr.inv.alloc hfk (ki := ki) rfl hcs
    refine ⟨.pointer (some ⟨w.heap.size, 0, none⟩), _, World.alloc' w (.cells (a.eval x).cells t), _, I, .inl rfl, ?_, g1, fun _ h => h, g2, g3, ?_⟩
    · simp [execOp, ho, Instr.box, newVar, newRow, newObj, Sem.run, World.alloc']
    · show Rep _ _ _ (.ptr k 0 0) _
      have := Rep.ptr (w := World.alloc' w (.cells (a.eval x).cells t)) (I := I) (κ := setK κ k (some ki)) (k := k) (e := 0) (j := 0) (ki := ki) (setK_self ..)
      simpa [ki] using this

def zeroA (P : Program) (t : TypeId) : Option AVal := ((P.info? t).bind (·.zero)).map constA

theorem ok_alloc {P : Program} {o : Oper} {s : AState} {t : TypeId} {z : AVal} (k : Nat) (ho : o.op = .alloc t) (hz : zeroA P t = some z) (hl : leaves (valCells z) = true) :
    OpOK P o (mkSp s o [] [k] (.ptr k 0 0) [(k, some (.box t (valCells z)))]) :=
  .of fun Γ κ I s2 a w hP hr hn hf => by
    have hfk := hf k (by simp [mkSp])
    unfold zeroA at hz
    cases hi : P.info? t with
    | none => rw [hi] at hz; simp at hz
    | some i =>
      cases hzz : i.zero with
      | none => rw [hi] at hz; simp [hzz] at hz
      | some zv =>
        rw [hi] at hz
        simp [hzz] at hz
        subst hz
        have hx := constA_rep w I κ zv
        obtain ⟨h1, h2, h3⟩ := valCells_rep hx hl
        let ki : KI := ⟨w.heap.size, 1, (valCells (constA zv)).length, 1⟩
        have hcs : ORep (World.alloc' w (.cells zv.cells t)) I (setK κ k (some ki)) ki (.box t (valCells (constA zv))) := by
          refine ⟨rfl, rfl, zv.cells, alloc_new _ _, h1, fun j hj => ?_⟩
          obtain ⟨u, e, r⟩ := h2 j hj
          refine ⟨u, e, r.mono (fun _ h => h) (fun b hb => alloc_get _ _ _ (hr.inv.bound b hb)) (fun k' hk' => setK_ne _ _ _ ?_)⟩
          rintro rfl
          have : hasL k' (valCells (constA zv)) = false := by rw [has_valCells]; exact fresh_eval hfk (.const zv)
          rw [hasL_get this j hj] at hk'; simp at hk'
        obtain ⟨g1, g2, g3⟩ := hr.inv.alloc hfk (ki := ki) rfl hcs
        refine ⟨.pointer (some ⟨w.heap.size, 0, none⟩), _, World.alloc' w (.cells zv.cells t), _, I, .inl rfl, ?_, g1, fun _ h => h, g2, g3, ?_⟩
        · simp [execOp, ho, Instr.alloc, newVar, newRow, newObj, Sem.run, World.alloc', zeroValue, run_typeInfo' hi, hzz]
        · show Rep _ _ _ (.ptr k 0 0) _
          have := Rep.ptr (w := World.alloc' w (.cells zv.cells t)) (I := I) (κ := setK κ k (some ki)) (k := k) (e := 0) (j := 0) (ki := ki) (setK_self ..)
          simpa [ki] using this

/-! ### Loads and stores -/
theorem obj_at {Γ : Ctx} {κ : Nat → Option KI} {I : Nat → Prop} {s : AState} {w : World} (h : Inv Γ κ I s w) {k : Nat} {o : MObj} (hk : s.obj k = some o) : OAt w I κ k o := h.objs k o hk

theorem ok_load_box {P : Program} {o : Oper} {s : AState} {t : TypeId} {x : Operand} {k j el : Nat} {cells : List AVal} {ag : Bool} {sz : Nat} {r : AVal} (ho : o.op = .load t x)
    (hx : s.eval x = .ptr k 0 j) (hk : s.obj k = some (.box el cells)) (ht : aggP P t = some (ag, sz)) (hr : loadA ag sz (cells.drop j) = some r) : OpOK P o (mkSp s o [k] [] r []) :=
  .quiet rfl fun Γ κ I s2 a w hP hrel hn => by
    have h1 := hrel.eval x
    rw [needs_eval hn x (by simp [ho, Op.operands]), hx] at h1
    have h2 := obj_at hrel.inv ((needs_obj hn k (by simp)).trans hk)
    obtain ⟨v, hv, hrep⟩ := load_place (place_box h1 h2) ht hr
    exact ⟨v, by simp [execOp, ho, hv], hrep⟩

theorem ok_load_row {P : Program} {o : Oper} {s : AState} {t : TypeId} {x : Operand} {k e j sz' el : Nat} {es : List (List Im)} (c : List Im) {ag : Bool} {sz : Nat} {r : AVal} (ho : o.op = .load t x)
    (hx : s.eval x = .ptr k e j) (hk : s.obj k = some (.row sz' el es)) (hc : es[e]? = some c) (ht : aggP P t = some (ag, sz)) (hr : loadA ag sz ((c.drop j).map .im) = some r) : OpOK P o (mkSp s o [k] [] r []) :=
  .quiet rfl fun Γ κ I s2 a w hP hrel hn => by
    have h1 := hrel.eval x
    rw [needs_eval hn x (by simp [ho, Op.operands]), hx] at h1
    have h2 := obj_at hrel.inv ((needs_obj hn k (by simp)).trans hk)
    obtain ⟨v, hv, hrep⟩ := load_place (place_row h1 h2 hc) ht hr
    exact ⟨v, by simp [execOp, ho, hv], hrep⟩

theorem ok_load_ip {P : Program} {o : Oper} {s : AState} {t : TypeId} {x : Operand} {cells : List Im} {ag : Bool} {sz : Nat} {r : AVal} (ho : o.op = .load t x)
    (hx : s.eval x = .ip cells) (ht : aggP P t = some (ag, sz)) (hr : loadA ag sz (cells.map .im) = some r) : OpOK P o (mkSp s o [] [] r []) :=
  .quiet rfl fun Γ κ I s2 a w hP hrel hn => by
    have h1 := hrel.eval x
    rw [needs_eval hn x (by simp [ho, Op.operands]), hx] at h1
    obtain ⟨v, hv, hrep⟩ := load_place (place_ip h1) ht hr
    exact ⟨v, by simp [execOp, ho, hv], hrep⟩

def splice {α : Type} (l : List α) (j : Nat) (r : List α) : List α := l.take j ++ r ++ l.drop (j + r.length)
theorem splice_length {α : Type} {l r : List α} {j : Nat} (h : j + r.length ≤ l.length) : (splice l j r).length = l.length := by simp [splice]; omega
theorem splice_get? {α : Type} {l r : List α} {j : Nat} (h : j + r.length ≤ l.length) (i : Nat) :
    (splice l j r)[i]? = if j ≤ i ∧ i < j + r.length then r[i - j]? else l[i]? := by
  unfold splice
  rw [List.getElem?_append]
  by_cases h1 : i < j
  · rw [if_pos (by simp; omega), List.getElem?_append, if_pos (by simp; omega), List.getElem?_take, if_pos h1, if_neg (by omega)]
  · by_cases h2 : i < j + r.length
    · rw [if_pos (by simp; omega), List.getElem?_append, if_neg (by simp; omega), if_pos (by omega)]; simp; congr 1; omega
    · rw [if_neg (by simp; omega), if_neg (by omega), List.getElem?_drop]; simp; congr 1; omega
theorem splice_get {α : Type} {l r : List α} {j : Nat} (h : j + r.length ≤ l.length) (i : Nat) (hi : i < (splice l j r).length) :
    (splice l j r)[i] = if h' : j ≤ i ∧ i < j + r.length then r[i - j]'(by omega) else l[i]'(by rw [splice_length h] at hi; exact hi) := by
  have := splice_get? h i
  rw [List.getElem?_eq_getElem hi] at this
  split
  · rename_i h'
    rw [if_pos h', List.getElem?_eq_getElem (by omega)] at this
    exact Option.some.inj this
  · rename_i h'
    rw [if_neg h', List.getElem?_eq_getElem (by rw [splice_length h] at hi; exact hi)] at this
    exact Option.some.inj this

theorem ok_store_box {P : Program} {o : Oper} {s : AState} {t : TypeId} {x y : Operand} {k j el : Nat} {cells : List AVal} {ag : Bool} {sz : Nat} (ho : o.op = .store t x y)
    (hx : s.eval x = .ptr k 0 j) (hk : s.obj k = some (.box el cells)) (ht : aggP P t = some (ag, sz)) (hl : leaves (valCells (s.eval y)) = true)
    (hsz : (valCells (s.eval y)).length = sz) (h0 : 0 < sz) (hfit : j + sz ≤ cells.length) :
    OpOK P o (mkSp s o [k] [] .top [(k, some (.box el (splice cells j (valCells (s.eval y)))))]) :=
  .of fun Γ κ I s2 a w hP hrel hn hf => by
    have h1 := hrel.eval x
    rw [needs_eval hn x (by simp [ho, Op.operands]), hx] at h1
    have h2 := hrel.eval y
    rw [needs_eval hn y (by simp [ho, Op.operands])] at h2
    have hk2 := (needs_obj hn k (by simp)).trans hk
    have h3 := obj_at hrel.inv hk2
    obtain ⟨v1, v2, v3⟩ := valCells_rep h2 hl
    generalize hp : a.eval x = p at h1
    cases h1 with
    | @ptr _ _ _ ki eκ =>
      simp only [OAt, eκ, ORep] at h3
      obtain ⟨c1, c2, arr, c3, c4, c5⟩ := h3
      generalize hV : valCells (s.eval y) = V at *
      have hvl : (a.eval y).cells.toList.length = V.length := by simpa using v1
      let ob : Obj := .cells (setMany arr j (a.eval y).cells.toList) el (0, 0)
      have hrun : (execOp a.eval o).run P w = .ok .skip (World.setBlock w ki.b ob) := by
        have hst := run_storeCells (P := P) (b := ki.b) (el := el) (a.eval y).cells.toList w arr j 0 c3 (by rw [hvl]; omega) v3 (by intro e; rw [e] at hvl; simp at hvl; omega)
        simp only [execOp, ho, hp, Instr.storeAt, Instr.sureAddr, pure_bind, storeVar, Sem.run_bind, run_sizeOf' ht, Result.andThen_ok]
        rw [if_neg (by rw [v1, hsz]; simp)]
        simp only [Nat.zero_mul, Nat.zero_add, Nat.add_zero] at hst ⊢
        simp [hst, ob]
      have hb : ki.b < w.heap.size := (Array.getElem?_eq_some_iff.1 c3).1
      have hne : ∀ b, I b → (World.setBlock w ki.b ob).heap[b]? = w.heap[b]? := fun b hb' => by
        rw [setBlock_get _ _ _ _ hb, if_neg]
        rintro rfl
        exact hrel.inv.disj k _ ki hk2 eκ hb'
      have hO : ORep (World.setBlock w ki.b ob) I κ ki (.box el (splice cells j V)) := by
        have hlen := splice_length (l := cells) (r := V) (j := j) (by omega)
        refine ⟨c1, by rw [hlen]; exact c2, setMany arr j (a.eval y).cells.toList, by rw [setBlock_get _ _ _ _ hb, if_pos rfl], by rw [setMany_size, hlen]; exact c4, fun i hi => ?_⟩
        rw [hlen] at hi
        rw [setMany_get _ _ _ _ (by rw [hvl]; omega), splice_get (by omega)]
        by_cases hin : j ≤ i ∧ i < j + V.length
        · rw [if_pos (by rw [hvl]; exact hin), dif_pos hin]
          obtain ⟨u, e, r⟩ := v2 (i - j) (by omega)
          exact ⟨u, by simpa using e, r.mono (fun _ h => h) hne (fun _ _ => rfl)⟩
        · rw [if_neg (by rw [hvl]; exact hin), dif_neg hin]
          obtain ⟨u, e, r⟩ := c5 i hi
          exact ⟨u, e, r.mono (fun _ h => h) hne (fun _ _ => rfl)⟩
      obtain ⟨g1, g2⟩ := hrel.inv.update hk2 eκ hO
      exact ⟨undef, .skip, _, κ, I, .inr ⟨rfl, rfl⟩, hrun, g1, fun _ h => h, g2, fun _ _ _ => rfl, .top _⟩

end Go.Pv
