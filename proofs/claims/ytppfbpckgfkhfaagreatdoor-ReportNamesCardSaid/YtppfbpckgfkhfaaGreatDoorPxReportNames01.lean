import Derived.Test.YtppfbpckgfkhfaaGreatDoorPxReportNames00
set_option linter.unusedVariables false
set_option linter.unusedSimpArgs false
namespace Go.Pv
def setK (κ : Nat → Option KI) (k : Nat) (ki : Option KI) : Nat → Option KI := fun k' => if k' = k then ki else κ k'
theorem setK_self (κ : Nat → Option KI) (k : Nat) (ki : Option KI) : setK κ k ki k = ki := by simp [setK]
theorem setK_ne (κ : Nat → Option KI) (k : Nat) (ki : Option KI) {k' : Nat} (h : k' ≠ k) : setK κ k ki k' = κ k' := by simp [setK, h]
def World.alloc' (w : World) (o : Obj) : World := { w with heap := w.heap.push o }
theorem alloc_get (w : World) (o : Obj) (b : Nat) (h : b < w.heap.size) : (World.alloc' w o).heap[b]? = w.heap[b]? := by
  show (w.heap.push o)[b]? = _
  rw [Array.getElem?_push, if_neg (by omega)]
theorem alloc_new (w : World) (o : Obj) : (World.alloc' w o).heap[w.heap.size]? = some o := by
  show (w.heap.push o)[w.heap.size]? = _
  rw [Array.getElem?_push, if_pos rfl]
theorem alloc_size (w : World) (o : Obj) : (World.alloc' w o).heap.size = w.heap.size + 1 := by
  show (w.heap.push o).size = _
  rw [Array.size_push]
theorem Inv.kill {Γ : Ctx} {κ : Nat → Option KI} {I : Nat → Prop} {s : AState} {w : World} (h : Inv Γ κ I s w) (l : List (Nat × Option MObj)) (hl : ∀ p ∈ l, p.2 = none) : Inv Γ κ I (s.objput l) w := by
  refine h.eqv (fun k o hk => ?_) rfl
  · skip
    rw [AState.obj_objput] at hk
    cases e : look l k with
    | none => rw [e] at hk; exact hk
    | some v =>
      rw [e] at hk
      have hv : v = some o := hk
      have : ∀ (l : List (Nat × Option MObj)), look l k = some v → ∃ p ∈ l, p.2 = v := by
        intro l
        induction l with
        | nil => intro h; simp [look] at h
        | cons p l ih =>
          obtain ⟨i, u⟩ := p
          intro h
          rw [look_cons] at h
          by_cases e : i = k
          · rw [if_pos e] at h; exact ⟨(i, u), by simp, by simpa using h⟩
          · rw [if_neg e] at h; obtain ⟨p, hp, e⟩ := ih h; exact ⟨p, by simp [hp], e⟩
      obtain ⟨p, hp, e'⟩ := this l e
      rw [← e', hl p hp] at hv; simp at hv
theorem Inv.alloc {Γ : Ctx} {κ : Nat → Option KI} {I : Nat → Prop} {s : AState} {w : World} {k : Nat} {o' : MObj} {ki : KI} {ob : Obj} (h : Inv Γ κ I s w)
    (hf : s.fresh k) (hb : ki.b = w.heap.size) (ho' : ORep (World.alloc' w ob) I (setK κ k (some ki)) ki o') :
    Inv Γ (setK κ k (some ki)) I (s.objput [(k, some o')]) (World.alloc' w ob) ∧ (∀ b, I b → (World.alloc' w ob).heap[b]? = w.heap[b]?) ∧
      ∀ x k', (s.get x).has k' = true → setK κ k (some ki) k' = κ k' := by
  have hI : ∀ b, I b → (World.alloc' w ob).heap[b]? = w.heap[b]? := fun b hb' => alloc_get _ _ _ (h.bound b hb')
  have hκ' : ∀ k', k' ≠ k → setK κ k (some ki) k' = κ k' := fun k' hk => setK_ne _ _ _ hk
  have hobj : ∀ k' o'', (s.objput [(k, some o')]).obj k' = some o'' → (k' = k ∧ o'' = o') ∨ (k' ≠ k ∧ s.obj k' = some o'') := by
    intro k' o'' e
    rw [AState.obj_objput, look_cons] at e
    by_cases ek : k = k'
    · rw [if_pos ek] at e; simp at e; exact .inl ⟨ek.symm, e.symm⟩
    · rw [if_neg ek] at e; exact .inr ⟨fun h => ek h.symm, e⟩
  have hlt : ∀ k' o'' ki', s.obj k' = some o'' → κ k' = some ki' → ki'.b < w.heap.size := by
    intro k' o'' ki' e eκ
    have := h.objs k' o'' e
    simp only [OAt, eκ] at this
    cases o'' with
    | row => obtain ⟨_, _, _, arr, h3, _⟩ := this; exact (Array.getElem?_eq_some_iff.1 h3).1
    | box => obtain ⟨_, _, arr, h3, _⟩ := this; exact (Array.getElem?_eq_some_iff.1 h3).1
    | map => obtain ⟨arr, h3, _⟩ := this; exact (Array.getElem?_eq_some_iff.1 h3).1
    | iter => obtain ⟨bm, h3, _⟩ := this; exact (Array.getElem?_eq_some_iff.1 h3).1
    | arow => obtain ⟨_, _, _, arr, h3, _⟩ := this; exact (Array.getElem?_eq_some_iff.1 h3).1
    | amap => obtain ⟨_, arr, h3, _⟩ := this; exact (Array.getElem?_eq_some_iff.1 h3).1
    | dmap => obtain ⟨arr, h3, _⟩ := this; exact (Array.getElem?_eq_some_iff.1 h3).1
    | gmap => obtain ⟨_, _, _, _, _, arr, h3, _⟩ := this; exact (Array.getElem?_eq_some_iff.1 h3).1
    | niter => exact (Array.getElem?_eq_some_iff.1 this).1
  refine ⟨⟨?_, ?_, ?_, ?_, ?_, h.ikeep, h.fromI, ?_, fun k' hk' => (hκ' k' (fun e => by have := hf.2.2.2; rw [e] at hk'; exact absurd hk' (by simp only [AState.objput]; omega))).trans (h.fix k' hk')⟩, hI, fun x k' hx => hκ' k' (fun e => by rw [e, hf.1 x] at hx; simp at hx)⟩
  · intro k' o'' e
    rcases hobj k' o'' e with ⟨rfl, rfl⟩ | ⟨hkk, e⟩
    · simp only [OAt, setK_self]; exact ho'
    · have := h.objs k' o'' e
      unfold OAt at this ⊢
      rw [hκ' k' hkk]
      split
      · rename_i eκ; rw [eκ] at this; exact this
      · rename_i ki' eκ
        rw [eκ] at this
        exact this.mono (fun _ h => h) hI (alloc_get _ _ _ (hlt k' o'' ki' e eκ)) (fun k2 h2 => hκ' k2 (fun e2 => by rw [e2, hf.2.1 k' o'' e] at h2; simp at h2))
  · intro k1 k2 o1 o2 ki1 ki2 e1 e2 f1 f2 hbb
    rcases hobj k1 o1 e1 with ⟨q1, _⟩ | ⟨h1, g1⟩ <;> rcases hobj k2 o2 e2 with ⟨q2, _⟩ | ⟨h2, g2⟩
    · rw [q1, q2]
    · rw [q1, setK_self] at f1; rw [hκ' _ h2] at f2
      obtain rfl := Option.some.inj f1
      have := hlt k2 o2 ki2 g2 f2; omega
    · rw [q2, setK_self] at f2; rw [hκ' _ h1] at f1
      obtain rfl := Option.some.inj f2
      have := hlt k1 o1 ki1 g1 f1; omega
    · rw [hκ' _ h1] at f1; rw [hκ' _ h2] at f2
      exact h.inj k1 k2 o1 o2 ki1 ki2 g1 g2 f1 f2 hbb
  · intro k1 o1 ki1 e1 f1 hIb
    rcases hobj k1 o1 e1 with ⟨rfl, rfl⟩ | ⟨h1, e1⟩
    · rw [setK_self] at f1; obtain rfl := Option.some.inj f1
      have := h.bound _ hIb; omega
    · rw [hκ' _ h1] at f1; exact h.disj k1 o1 ki1 e1 f1 hIb
  · intro b hb'; have := h.bound b hb'; rw [alloc_size]; omega
  · exact ⟨h.keep.os, h.keep.tape, h.keep.output, by have := h.keep.size; rw [alloc_size]; omega, fun b hb' hn => by
      rw [alloc_get _ _ _ (Nat.lt_of_lt_of_le hb' h.keep.size), h.keep.block b hb' hn]⟩
  · intro k1 o1 ki1 e1 f1
    rcases hobj k1 o1 e1 with ⟨rfl, rfl⟩ | ⟨h1, e1⟩
    · rw [setK_self] at f1; obtain rfl := Option.some.inj f1
      exact .inr (by rw [hb]; exact h.keep.size)
    · rw [hκ' _ h1] at f1; exact h.fromO k1 o1 ki1 e1 f1
theorem Inv.move {Γ : Ctx} {κ : Nat → Option KI} {I : Nat → Prop} {s : AState} {w : World} {k k2 : Nat} {o o' : MObj} {ki ki' : KI} {ob : Obj} (h : Inv Γ κ I s w)
    (hk : s.obj k = some o) (hκ : κ k = some ki) (hf : s.fresh k2) (hb' : ki'.b = ki.b) (ho' : ORep (World.setBlock w ki.b ob) I (setK κ k2 (some ki')) ki' o') :
    Inv Γ (setK κ k2 (some ki')) I (s.objput [(k2, some o'), (k, none)]) (World.setBlock w ki.b ob) ∧ (∀ b, I b → (World.setBlock w ki.b ob).heap[b]? = w.heap[b]?) ∧
      ∀ x k', (s.get x).has k' = true → setK κ k2 (some ki') k' = κ k' := by
  have hkk2 : k ≠ k2 := fun e => by rw [e, hf.2.2.1] at hk; simp at hk
  have hb : ki.b < w.heap.size := by
    have := h.objs k o hk
    simp only [OAt, hκ] at this
    cases o with
    | row => obtain ⟨_, _, _, arr, h3, _⟩ := this; exact (Array.getElem?_eq_some_iff.1 h3).1
    | box => obtain ⟨_, _, arr, h3, _⟩ := this; exact (Array.getElem?_eq_some_iff.1 h3).1
    | map => obtain ⟨arr, h3, _⟩ := this; exact (Array.getElem?_eq_some_iff.1 h3).1
    | iter => obtain ⟨bm, h3, _⟩ := this; exact (Array.getElem?_eq_some_iff.1 h3).1
    | arow => obtain ⟨_, _, _, arr, h3, _⟩ := this; exact (Array.getElem?_eq_some_iff.1 h3).1
    | amap => obtain ⟨_, arr, h3, _⟩ := this; exact (Array.getElem?_eq_some_iff.1 h3).1
    | dmap => obtain ⟨arr, h3, _⟩ := this; exact (Array.getElem?_eq_some_iff.1 h3).1
    | gmap => obtain ⟨_, _, _, _, _, arr, h3, _⟩ := this; exact (Array.getElem?_eq_some_iff.1 h3).1
    | niter => exact (Array.getElem?_eq_some_iff.1 this).1
  have hne : ∀ b, b ≠ ki.b → (World.setBlock w ki.b ob).heap[b]? = w.heap[b]? := fun b hb' => by rw [setBlock_get _ _ _ _ hb, if_neg (fun e => hb' e.symm)]
  have hI : ∀ b, I b → (World.setBlock w ki.b ob).heap[b]? = w.heap[b]? := fun b hb' => hne b (fun e => h.disj k o ki hk hκ (e ▸ hb'))
  have hκ' : ∀ k', k' ≠ k2 → setK κ k2 (some ki') k' = κ k' := fun k' hk => setK_ne _ _ _ hk
  have hobj : ∀ k' o'', (s.objput [(k2, some o'), (k, none)]).obj k' = some o'' → (k' = k2 ∧ o'' = o') ∨ (k' ≠ k2 ∧ k' ≠ k ∧ s.obj k' = some o'') := by
    intro k' o'' e
    rw [AState.obj_objput, look_cons, look_cons] at e
    by_cases ek : k2 = k'
    · rw [if_pos ek] at e; simp at e; exact .inl ⟨ek.symm, e.symm⟩
    · rw [if_neg ek] at e
      by_cases ek' : k = k'
      · rw [if_pos ek'] at e; simp at e
      · rw [if_neg ek'] at e; exact .inr ⟨fun h => ek h.symm, fun h => ek' h.symm, e⟩
  refine ⟨⟨?_, ?_, ?_, ?_, ?_, h.ikeep, h.fromI, ?_, fun k' hk' => (hκ' k' (fun e => by have := hf.2.2.2; rw [e] at hk'; exact absurd hk' (by simp only [AState.objput]; omega))).trans (h.fix k' hk')⟩, hI, fun x k' hx => hκ' k' (fun e => by rw [e, hf.1 x] at hx; simp at hx)⟩
  · intro k' o'' e
    rcases hobj k' o'' e with ⟨rfl, rfl⟩ | ⟨h1, h2, e⟩
    · simp only [OAt, setK_self]; exact ho'
    · have := h.objs k' o'' e
      unfold OAt at this ⊢
      rw [hκ' k' h1]
      split
      · rename_i eκ; rw [eκ] at this; exact this
      · rename_i kj eκ
        rw [eκ] at this
        exact this.mono (fun _ h => h) hI (hne _ (fun eb => h2 (h.inj k' k o'' o kj ki e hk eκ hκ eb))) (fun k3 h3 => hκ' k3 (fun e2 => by rw [e2, hf.2.1 k' o'' e] at h3; simp at h3))
  · intro k1 k3 o1 o3 ki1 ki3 e1 e3 f1 f3 hbb
    rcases hobj k1 o1 e1 with ⟨q1, _⟩ | ⟨h1, h1', g1⟩ <;> rcases hobj k3 o3 e3 with ⟨q3, _⟩ | ⟨h3, h3', g3⟩
    · rw [q1, q3]
    · rw [q1, setK_self] at f1; rw [hκ' _ h3] at f3
      obtain rfl := Option.some.inj f1
      exact absurd (h.inj k3 k o3 o ki3 ki g3 hk f3 hκ (by rw [← hbb, hb'])) h3'
    · rw [q3, setK_self] at f3; rw [hκ' _ h1] at f1
      obtain rfl := Option.some.inj f3
      exact absurd (h.inj k1 k o1 o ki1 ki g1 hk f1 hκ (by rw [hbb, hb'])) h1'
    · rw [hκ' _ h1] at f1; rw [hκ' _ h3] at f3
      exact h.inj k1 k3 o1 o3 ki1 ki3 g1 g3 f1 f3 hbb
  · intro k1 o1 ki1 e1 f1 hIb
    rcases hobj k1 o1 e1 with ⟨rfl, rfl⟩ | ⟨h1, _, e1⟩
    · rw [setK_self] at f1; obtain rfl := Option.some.inj f1
      rw [hb'] at hIb; exact h.disj k o ki hk hκ hIb
    · rw [hκ' _ h1] at f1; exact h.disj k1 o1 ki1 e1 f1 hIb
  · intro b hb'; rw [setBlock_size]; exact h.bound b hb'
  · refine ⟨h.keep.os, h.keep.tape, h.keep.output, by rw [setBlock_size]; exact h.keep.size, fun b hb' hn => ?_⟩
    rw [hne b, h.keep.block b hb' hn]
    rintro rfl
    rcases h.fromO k o ki hk hκ with hm | hm
    · exact hn hm
    · omega
  · intro k1 o1 ki1 e1 f1
    rcases hobj k1 o1 e1 with ⟨rfl, rfl⟩ | ⟨h1, _, e1⟩
    · rw [setK_self] at f1; obtain rfl := Option.some.inj f1
      rw [hb']; exact h.fromO k o ki hk hκ
    · rw [hκ' _ h1] at f1; exact h.fromO k1 o1 ki1 e1 f1
theorem Inv.emptyRow {Γ : Ctx} {κ : Nat → Option KI} {I : Nat → Prop} {s : AState} {w : World} {k : Nat} {sz el : Nat} (h : Inv Γ κ I s w) (hf : s.fresh k) :
    Inv Γ (setK κ k none) I (s.objput [(k, some (.row sz el []))]) w ∧ ∀ x k', (s.get x).has k' = true → setK κ k none k' = κ k' := by
  have hκ' : ∀ k', k' ≠ k → setK κ k none k' = κ k' := fun k' hk => setK_ne _ _ _ hk
  have hobj : ∀ k' o'', (s.objput [(k, some (.row sz el []))]).obj k' = some o'' → (k' = k ∧ o'' = .row sz el []) ∨ (k' ≠ k ∧ s.obj k' = some o'') := by
    intro k' o'' e
    rw [AState.obj_objput, look_cons] at e
    by_cases ek : k = k'
    · rw [if_pos ek] at e; simp at e; exact .inl ⟨ek.symm, e.symm⟩
    · rw [if_neg ek] at e; exact .inr ⟨fun h => ek h.symm, e⟩
  have hko : ∀ k' o'' ki, (s.objput [(k, some (.row sz el []))]).obj k' = some o'' → setK κ k none k' = some ki → s.obj k' = some o'' ∧ κ k' = some ki := by
    intro k' o'' ki e f
    rcases hobj k' o'' e with ⟨rfl, rfl⟩ | ⟨h1, e⟩
    · rw [setK_self] at f; simp at f
    · rw [hκ' _ h1] at f; exact ⟨e, f⟩
  refine ⟨⟨?_, ?_, ?_, h.bound, h.keep, h.ikeep, h.fromI, ?_, fun k' hk' => (hκ' k' (fun e => by have := hf.2.2.2; rw [e] at hk'; exact absurd hk' (by simp only [AState.objput]; omega))).trans (h.fix k' hk')⟩, fun x k' hx => hκ' k' (fun e => by rw [e, hf.1 x] at hx; simp at hx)⟩
  · intro k' o'' e
    rcases hobj k' o'' e with ⟨rfl, rfl⟩ | ⟨hkk, e⟩
    · simp only [OAt, setK_self]; exact ⟨sz, el, rfl⟩
    · have := h.objs k' o'' e
      unfold OAt at this ⊢
      rw [hκ' k' hkk]
      split
      · rename_i eκ; rw [eκ] at this; exact this
      · rename_i ki' eκ
        rw [eκ] at this
        exact this.mono (fun _ h => h) (fun _ _ => rfl) rfl (fun k2 h2 => hκ' k2 (fun e2 => by rw [e2, hf.2.1 k' o'' e] at h2; simp at h2))
  · intro k1 k2 o1 o2 ki1 ki2 e1 e2 f1 f2
    obtain ⟨e1, f1⟩ := hko k1 o1 ki1 e1 f1
    obtain ⟨e2, f2⟩ := hko k2 o2 ki2 e2 f2
    exact h.inj k1 k2 o1 o2 ki1 ki2 e1 e2 f1 f2
  · intro k1 o1 ki1 e1 f1
    obtain ⟨e1, f1⟩ := hko k1 o1 ki1 e1 f1
    exact h.disj k1 o1 ki1 e1 f1
  · intro k1 o1 ki1 e1 f1
    obtain ⟨e1, f1⟩ := hko k1 o1 ki1 e1 f1
    exact h.fromO k1 o1 ki1 e1 f1
def valCells : AVal → List AVal
  | .agg cs => cs
  | v => [v]
def leaves : List AVal → Bool
  | [] => true
  | x :: r => x.leaf && leaves r
theorem leaves_get : ∀ {l : List AVal}, leaves l = true → ∀ j (h : j < l.length), (l[j]).leaf = true
  | [], _, j, h => by simp at h
  | x :: r, he, j, h => by
    simp only [leaves, Bool.and_eq_true] at he
    cases j with
    | zero => exact he.1
    | succ j => exact leaves_get he.2 j (by simpa using h)
theorem valCells_rep {w : World} {I : Nat → Prop} {κ : Nat → Option KI} {x : AVal} {v : Value} (h : Rep w I κ x v) (hl : leaves (valCells x) = true) :
    v.cells.size = (valCells x).length ∧ (∀ j (h : j < (valCells x).length), ∃ u, v.cells[j]? = some u ∧ Rep w I κ ((valCells x)[j]) u) ∧ ∀ u ∈ v.cells.toList, leafV u = true := by
  cases x with
  | agg cs =>
    cases h with
    | @agg _ vs hlen hr =>
      simp only [valCells, Value.cells] at *
      refine ⟨by simp [hlen], fun j hj => ⟨vs[j]'(by omega), by simp, hr j hj (by omega)⟩, fun u hu => ?_⟩
      obtain ⟨j, hj, rfl⟩ := List.mem_iff_getElem.1 hu
      exact leaf_rep (hr j (by omega) hj) (leaves_get hl j (by omega))
  | _ =>
    simp only [valCells, leaves, Bool.and_true] at hl
    have hv := leaf_rep h hl
    have : v.cells = #[v] := by cases v <;> first | rfl | simp [leafV] at hv
    simp only [valCells, this]
    refine ⟨rfl, fun j hj => ?_, fun u hu => by simp at hu; rw [hu]; exact hv⟩
    have : j = 0 := by simpa using hj
    subst this
    exact ⟨v, rfl, h⟩
theorem has_valCells {k : Nat} {x : AVal} : hasL k (valCells x) = x.has k := by
  cases x <;> simp [valCells, hasL, AVal.has]
theorem fresh_eval {s : AState} {k : Nat} (h : s.fresh k) (x : Operand) : (s.eval x).has k = false := by
  cases x with
  | tmp t => exact h.1 t
  | const v =>
    have : ∀ v, (leafA v).has k = false := fun v => by unfold leafA; split <;> rfl
    simp only [AState.eval]
    unfold constA
    split
    · rename_i cs
      simp only [AVal.has]
      generalize cs.toList = l
      induction l with
      | nil => rfl
      | cons v r ih => simp [hasL, this, ih]
    · exact this _
  | _ => rfl
theorem ok_box {P : Program} {o : Oper} {s : AState} {t : TypeId} {x : Operand} (k : Nat) (ho : o.op = .box t x) (hl : leaves (valCells (s.eval x)) = true) :
    OpOK P o (mkSp s o [] [k] (.ptr k 0 0) [(k, some (.box t (valCells (s.eval x))))]) :=
  .of fun Γ κ I s2 a w hP hr hn hf => by
    have hfk := hf k (by simp [mkSp])
    have hx := hr.eval x
    have hse := needs_eval hn x (by simp [ho, Op.operands])
    rw [hse] at hx
    obtain ⟨h1, h2, h3⟩ := valCells_rep hx hl
    let ki : KI := ⟨w.heap.size, 1, (valCells (s.eval x)).length, 1⟩
    have hcs : ORep (World.alloc' w (.cells (a.eval x).cells t)) I (setK κ k (some ki)) ki (.box t (valCells (s.eval x))) := by
      refine ⟨rfl, rfl, (a.eval x).cells, alloc_new _ _, h1, fun j hj => ?_⟩
      obtain ⟨u, e, r⟩ := h2 j hj
      refine ⟨u, e, r.mono (fun _ h => h) (fun b hb => alloc_get _ _ _ (hr.inv.bound b hb)) (fun k' hk' => setK_ne _ _ _ ?_)⟩
      rintro rfl
      have : hasL k' (valCells (s.eval x)) = false := by rw [has_valCells, ← hse]; exact fresh_eval hfk x
      rw [hasL_get this j hj] at hk'; simp at hk'
    obtain ⟨g1, g2, g3⟩ := hr.inv.alloc hfk (ki := ki) rfl hcs
    refine ⟨.pointer (some ⟨w.heap.size, 0, none⟩), _, World.alloc' w (.cells (a.eval x).cells t), _, I, .inl rfl, ?_, g1, fun _ h => h, g2, g3, ?_⟩
    · simp [execOp, ho, Instr.box, newVar, newRow, newObj, Sem.run, World.alloc']
    · show Rep _ _ _ (.ptr k 0 0) _
      have := Rep.ptr (w := World.alloc' w (.cells (a.eval x).cells t)) (I := I) (κ := setK κ k (some ki)) (k := k) (e := 0) (j := 0) (ki := ki) (setK_self ..)
      simpa [ki] using this
def zeroA (P : Program) (t : TypeId) : Option AVal := ((P.info? t).bind (·.zero)).map constA
theorem ok_alloc {P : Program} {o : Oper} {s : AState} {t : TypeId} {z : AVal} (k : Nat) (ho : o.op = .alloc t) (hz : zeroA P t = some z) (hl : leaves (valCells z) = true) :
    OpOK P o (mkSp s o [] [k] (.ptr k 0 0) [(k, some (.box t (valCells z)))]) :=
  .of fun Γ κ I s2 a w hP hr hn hf => by
    have hfk := hf k (by simp [mkSp])
    unfold zeroA at hz
    cases hi : P.info? t with
    | none => rw [hi] at hz; simp at hz
    | some i =>
      cases hzz : i.zero with
      | none => rw [hi] at hz; simp [hzz] at hz
      | some zv =>
        rw [hi] at hz
        simp [hzz] at hz
        subst hz
        have hx := constA_rep w I κ zv
        obtain ⟨h1, h2, h3⟩ := valCells_rep hx hl
        let ki : KI := ⟨w.heap.size, 1, (valCells (constA zv)).length, 1⟩
        have hcs : ORep (World.alloc' w (.cells zv.cells t)) I (setK κ k (some ki)) ki (.box t (valCells (constA zv))) := by
          refine ⟨rfl, rfl, zv.cells, alloc_new _ _, h1, fun j hj => ?_⟩
          obtain ⟨u, e, r⟩ := h2 j hj
          refine ⟨u, e, r.mono (fun _ h => h) (fun b hb => alloc_get _ _ _ (hr.inv.bound b hb)) (fun k' hk' => setK_ne _ _ _ ?_)⟩
          rintro rfl
          have : hasL k' (valCells (constA zv)) = false := by rw [has_valCells]; exact fresh_eval hfk (.const zv)
          rw [hasL_get this j hj] at hk'; simp at hk'
        obtain ⟨g1, g2, g3⟩ := hr.inv.alloc hfk (ki := ki) rfl hcs
        refine ⟨.pointer (some ⟨w.heap.size, 0, none⟩), _, World.alloc' w (.cells zv.cells t), _, I, .inl rfl, ?_, g1, fun _ h => h, g2, g3, ?_⟩
        · simp [execOp, ho, Instr.alloc, newVar, newRow, newObj, Sem.run, World.alloc', zeroValue, run_typeInfo' hi, hzz]
        · show Rep _ _ _ (.ptr k 0 0) _
          have := Rep.ptr (w := World.alloc' w (.cells zv.cells t)) (I := I) (κ := setK κ k (some ki)) (k := k) (e := 0) (j := 0) (ki := ki) (setK_self ..)
          simpa [ki] using this
theorem obj_at {Γ : Ctx} {κ : Nat → Option KI} {I : Nat → Prop} {s : AState} {w : World} (h : Inv Γ κ I s w) {k : Nat} {o : MObj} (hk : s.obj k = some o) : OAt w I κ k o := h.objs k o hk
theorem ok_load_box {P : Program} {o : Oper} {s : AState} {t : TypeId} {x : Operand} {k j el : Nat} {cells : List AVal} {ag : Bool} {sz : Nat} {r : AVal} (ho : o.op = .load t x)
    (hx : s.eval x = .ptr k 0 j) (hk : s.obj k = some (.box el cells)) (ht : aggP P t = some (ag, sz)) (hr : loadA ag sz (cells.drop j) = some r) : OpOK P o (mkSp s o [k] [] r []) :=
  .quiet rfl fun Γ κ I s2 a w hP hrel hn => by
    have h1 := hrel.eval x
    rw [needs_eval hn x (by simp [ho, Op.operands]), hx] at h1
    have h2 := obj_at hrel.inv ((needs_obj hn k (by simp)).trans hk)
    obtain ⟨v, hv, hrep⟩ := load_place (place_box h1 h2) ht hr
    exact ⟨v, by simp [execOp, ho, hv], hrep⟩
theorem ok_load_row {P : Program} {o : Oper} {s : AState} {t : TypeId} {x : Operand} {k e j sz' el : Nat} {es : List (List Im)} (c : List Im) {ag : Bool} {sz : Nat} {r : AVal} (ho : o.op = .load t x)
    (hx : s.eval x = .ptr k e j) (hk : s.obj k = some (.row sz' el es)) (hc : es[e]? = some c) (ht : aggP P t = some (ag, sz)) (hr : loadA ag sz ((c.drop j).map .im) = some r) : OpOK P o (mkSp s o [k] [] r []) :=
  .quiet rfl fun Γ κ I s2 a w hP hrel hn => by
    have h1 := hrel.eval x
    rw [needs_eval hn x (by simp [ho, Op.operands]), hx] at h1
    have h2 := obj_at hrel.inv ((needs_obj hn k (by simp)).trans hk)
    obtain ⟨v, hv, hrep⟩ := load_place (place_row h1 h2 hc) ht hr
    exact ⟨v, by simp [execOp, ho, hv], hrep⟩
theorem ok_load_ip {P : Program} {o : Oper} {s : AState} {t : TypeId} {x : Operand} {cells : List Im} {ag : Bool} {sz : Nat} {r : AVal} (ho : o.op = .load t x)
    (hx : s.eval x = .ip cells) (ht : aggP P t = some (ag, sz)) (hr : loadA ag sz (cells.map .im) = some r) : OpOK P o (mkSp s o [] [] r []) :=
  .quiet rfl fun Γ κ I s2 a w hP hrel hn => by
    have h1 := hrel.eval x
    rw [needs_eval hn x (by simp [ho, Op.operands]), hx] at h1
    obtain ⟨v, hv, hrep⟩ := load_place (place_ip h1) ht hr
    exact ⟨v, by simp [execOp, ho, hv], hrep⟩
def splice {α : Type} (l : List α) (j : Nat) (r : List α) : List α := l.take j ++ r ++ l.drop (j + r.length)
theorem splice_length {α : Type} {l r : List α} {j : Nat} (h : j + r.length ≤ l.length) : (splice l j r).length = l.length := by simp [splice]; omega
theorem splice_get? {α : Type} {l r : List α} {j : Nat} (h : j + r.length ≤ l.length) (i : Nat) :
    (splice l j r)[i]? = if j ≤ i ∧ i < j + r.length then r[i - j]? else l[i]? := by
  unfold splice
  rw [List.getElem?_append]
  by_cases h1 : i < j
  · rw [if_pos (by simp; omega), List.getElem?_append, if_pos (by simp; omega), List.getElem?_take, if_pos h1, if_neg (by omega)]
  · by_cases h2 : i < j + r.length
    · rw [if_pos (by simp; omega), List.getElem?_append, if_neg (by simp; omega), if_pos (by omega)]; simp; congr 1; omega
    · rw [if_neg (by simp; omega), if_neg (by omega), List.getElem?_drop]; simp; congr 1; omega
theorem splice_get {α : Type} {l r : List α} {j : Nat} (h : j + r.length ≤ l.length) (i : Nat) (hi : i < (splice l j r).length) :
    (splice l j r)[i] = if h' : j ≤ i ∧ i < j + r.length then r[i - j]'(by omega) else l[i]'(by rw [splice_length h] at hi; exact hi) := by
  have := splice_get? h i
  rw [List.getElem?_eq_getElem hi] at this
  split
  · rename_i h'
    rw [if_pos h', List.getElem?_eq_getElem (by omega)] at this
    exact Option.some.inj this
  · rename_i h'
    rw [if_neg h', List.getElem?_eq_getElem (by rw [splice_length h] at hi; exact hi)] at this
    exact Option.some.inj this
theorem ok_store_box {P : Program} {o : Oper} {s : AState} {t : TypeId} {x y : Operand} {k j el : Nat} {cells : List AVal} {ag : Bool} {sz : Nat} (ho : o.op = .store t x y)
    (hx : s.eval x = .ptr k 0 j) (hk : s.obj k = some (.box el cells)) (ht : aggP P t = some (ag, sz)) (hl : leaves (valCells (s.eval y)) = true)
    (hsz : (valCells (s.eval y)).length = sz) (h0 : 0 < sz) (hfit : j + sz ≤ cells.length) :
    OpOK P o (mkSp s o [k] [] .top [(k, some (.box el (splice cells j (valCells (s.eval y)))))]) :=
  .of fun Γ κ I s2 a w hP hrel hn hf => by
    have h1 := hrel.eval x
    rw [needs_eval hn x (by simp [ho, Op.operands]), hx] at h1
    have h2 := hrel.eval y
    rw [needs_eval hn y (by simp [ho, Op.operands])] at h2
    have hk2 := (needs_obj hn k (by simp)).trans hk
    have h3 := obj_at hrel.inv hk2
    obtain ⟨v1, v2, v3⟩ := valCells_rep h2 hl
    generalize hp : a.eval x = p at h1
    cases h1 with
    | @ptr _ _ _ ki eκ =>
      simp only [OAt, eκ, ORep] at h3
      obtain ⟨c1, c2, arr, c3, c4, c5⟩ := h3
      generalize hV : valCells (s.eval y) = V at *
      have hvl : (a.eval y).cells.toList.length = V.length := by simpa using v1
      let ob : Obj := .cells (setMany arr j (a.eval y).cells.toList) el (0, 0)
      have hrun : (execOp a.eval o).run P w = .ok .skip (World.setBlock w ki.b ob) := by
        have hst := run_storeCells (P := P) (b := ki.b) (el := el) (a.eval y).cells.toList w arr j 0 c3 (by rw [hvl]; omega) v3 (by intro e; rw [e] at hvl; simp at hvl; omega)
        simp only [execOp, ho, hp, Instr.storeAt, Instr.sureAddr, pure_bind, storeVar, Sem.run_bind, run_sizeOf' ht, Result.andThen_ok]
        rw [if_neg (by rw [v1, hsz]; simp)]
        simp only [Nat.zero_mul, Nat.zero_add, Nat.add_zero] at hst ⊢
        simp [hst, ob]
      have hb : ki.b < w.heap.size := (Array.getElem?_eq_some_iff.1 c3).1
      have hne : ∀ b, I b → (World.setBlock w ki.b ob).heap[b]? = w.heap[b]? := fun b hb' => by
        rw [setBlock_get _ _ _ _ hb, if_neg]
        rintro rfl
        exact hrel.inv.disj k _ ki hk2 eκ hb'
      have hO : ORep (World.setBlock w ki.b ob) I κ ki (.box el (splice cells j V)) := by
        have hlen := splice_length (l := cells) (r := V) (j := j) (by omega)
        refine ⟨c1, by rw [hlen]; exact c2, setMany arr j (a.eval y).cells.toList, by rw [setBlock_get _ _ _ _ hb, if_pos rfl], by rw [setMany_size, hlen]; exact c4, fun i hi => ?_⟩
        rw [hlen] at hi
        rw [setMany_get _ _ _ _ (by rw [hvl]; omega), splice_get (by omega)]
        by_cases hin : j ≤ i ∧ i < j + V.length
        · rw [if_pos (by rw [hvl]; exact hin), dif_pos hin]
          obtain ⟨u, e, r⟩ := v2 (i - j) (by omega)
          exact ⟨u, by simpa using e, r.mono (fun _ h => h) hne (fun _ _ => rfl)⟩
        · rw [if_neg (by rw [hvl]; exact hin), dif_neg hin]
          obtain ⟨u, e, r⟩ := c5 i hi
          exact ⟨u, e, r.mono (fun _ h => h) hne (fun _ _ => rfl)⟩
      obtain ⟨g1, g2⟩ := hrel.inv.update hk2 eκ hO
      exact ⟨undef, .skip, _, κ, I, .inr ⟨rfl, rfl⟩, hrun, g1, fun _ h => h, g2, fun _ _ _ => rfl, .top _⟩
end Go.Pv
set_option linter.unusedVariables false
set_option linter.unusedSimpArgs false
namespace Go.Pv
def entryM (κ : Nat → Option KI) (s : AState) (b : Nat) : Prop := ∃ k o ki, s.obj k = some o ∧ κ k = some ki ∧ ki.b = b
def entryCtx (P : Program) (n : Nat) (κ : Nat → Option KI) (I : Nat → Prop) (s : AState) (w : World) (hg : GlobOK P I (entryM κ s) w) : Ctx :=
  { P, n, w0 := w, I0 := I, M0 := entryM κ s, κ0 := κ, glob := hg }
def Fn (P : Program) (f : FuncId) (args : List AVal) (objs : List (Nat × Option MObj)) (floor : Nat) (Q : AVal → List (Nat × Option MObj) → Prop) : Prop :=
  ∀ (κ : Nat → Option KI) (I : Nat → Prop) (w : World) (vs : List Value), vs.length = args.length → (∀ j (h : j < args.length) (h' : j < vs.length), Rep w I κ (args[j]) (vs[j])) →
    ∀ hg : GlobOK P I (entryM κ ⟨[], objs, floor⟩) w, Inv (entryCtx P 0 κ I ⟨[], objs, floor⟩ w hg) κ I ⟨[], objs, floor⟩ w →
    Calls P f vs.toArray w fun e w' => ∃ v r objs' κ' I', e = .returned v ∧ Q r objs' ∧ Rep w' I' κ' r v ∧ Inv (entryCtx P 0 κ I ⟨[], objs, floor⟩ w hg) κ' I' ⟨[], objs', floor⟩ w'
theorem Fn.mono {P : Program} {f : FuncId} {args : List AVal} {objs : List (Nat × Option MObj)} {floor : Nat} {Q Q' : AVal → List (Nat × Option MObj) → Prop} (h : Fn P f args objs floor Q)
    (hq : ∀ r o, Q r o → Q' r o) : Fn P f args objs floor Q' := fun κ I w vs h1 h2 hg h3 =>
  (h κ I w vs h1 h2 hg h3).mono fun e w' ⟨v, r, o, κ', I', e1, e2, e3, e4⟩ => ⟨v, r, o, κ', I', e1, hq _ _ e2, e3, e4⟩
def resA (P : Program) (s : AState) : ResultVar → Option AVal
  | .tmp t => some (s.get t)
  | .cell a t => match s.get a with
    | .ptr k 0 j => match s.obj k with
      | some (.box el cells) => match aggP P t with
        | some (ag, sz) => loadA ag sz (cells.drop j)
        | none => none
      | _ => none
    | _ => none
def resL (P : Program) (s : AState) : List ResultVar → Option (List AVal)
  | [] => some []
  | x :: r => match resA P s x, resL P s r with
    | some y, some l => some (y :: l)
    | _, _ => none
def resOf (P : Program) (fn : Func) (s : AState) : Option AVal :=
  match resL P s fn.results.toList with
  | some [r] => some r
  | some l => some (.tup l)
  | none => none
def resRun (tmps : Array Value) : ResultVar → Sem Value
  | .tmp t => pure (tmps.getD t undef)
  | .cell c t => do loadVar t (← asAddr (tmps.getD c undef))
theorem results_eq (fn : Func) (tmps : Array Value) : results fn tmps = (fn.results.mapM (resRun tmps) >>= fun vs => pure (if h : vs.size = 1 then vs[0] else .tuple vs)) := by
  unfold results
  congr 2
theorem run_resA {Γ : Ctx} {κ : Nat → Option KI} {I : Nat → Prop} {s : AState} {a : Act} {w : World} (h : Rel Γ κ I s a w) {x : ResultVar} {r : AVal} (hr : resA Γ.P s x = some r) :
    ∃ v, (resRun a.tmps x).run Γ.P w = .ok v w ∧ Rep w I κ r v := by
  cases x with
  | tmp t => exact ⟨_, rfl, by obtain rfl := Option.some.inj hr; exact h.slots t⟩
  | cell c t =>
    simp only [resA] at hr
    split at hr
    · rename_i k j hg
      split at hr
      · rename_i el cells ho
        split at hr
        · rename_i ag sz ht
          have h1 := h.slots c
          rw [hg] at h1
          obtain ⟨v, hv, hrep⟩ := load_place (place_box h1 (h.inv.objs k _ ho)) ht hr
          refine ⟨v, ?_, hrep⟩
          show (do loadVar t (← asAddr (a.tmps.getD c undef)) : Sem Value).run Γ.P w = .ok v w
          generalize a.tmps.getD c undef = p at h1 hv ⊢
          cases h1 with
          | ptr e => simpa [asAddr, Instr.loadAt, Instr.sureAddr] using hv
        · simp at hr
      · simp at hr
    · simp at hr
theorem run_resL {Γ : Ctx} {κ : Nat → Option KI} {I : Nat → Prop} {s : AState} {a : Act} {w : World} (h : Rel Γ κ I s a w) : ∀ {l : List ResultVar} {rs : List AVal}, resL Γ.P s l = some rs →
    ∃ vs : List Value, (l.mapM (resRun a.tmps)).run Γ.P w = .ok vs w ∧
      vs.length = rs.length ∧ ∀ j (h : j < rs.length) (h' : j < vs.length), Rep w I κ (rs[j]) (vs[j]) := by
  intro l
  induction l with
  | nil => intro rs hr; obtain rfl := Option.some.inj hr; exact ⟨[], by simp, rfl, fun j h => absurd h (Nat.not_lt_zero _)⟩
  | cons x l ih =>
    intro rs hr
    simp only [resL] at hr
    split at hr
    · rename_i y l' h1 h2
      obtain rfl := Option.some.inj hr
      obtain ⟨v, hv, hrep⟩ := run_resA h h1
      obtain ⟨vs, hvs, hlen, hreps⟩ := ih h2
      refine ⟨v :: vs, ?_, by simp [hlen], fun j h h' => ?_⟩
      · rw [List.mapM_cons, Sem.run_bind, hv]
        simp only [Result.andThen_ok, Sem.run_bind, hvs, Sem.run_pure]
      · cases j with
        | zero => exact hrep
        | succ j => exact hreps j (by simpa using h) (by simpa using h')
    · simp at hr
theorem run_resOf {Γ : Ctx} {κ : Nat → Option KI} {I : Nat → Prop} {s : AState} {a : Act} {w : World} (h : Rel Γ κ I s a w) {fn : Func} {r : AVal} (hr : resOf Γ.P fn s = some r) :
    ∃ v, (results fn a.tmps).run Γ.P w = .ok v w ∧ Rep w I κ r v := by
  unfold resOf at hr
  have key : ∀ rs, resL Γ.P s fn.results.toList = some rs → ∃ vs : List Value, (results fn a.tmps).run Γ.P w = .ok (if h : vs.toArray.size = 1 then vs.toArray[0] else .tuple vs.toArray) w ∧
      vs.length = rs.length ∧ ∀ j (h : j < rs.length) (h' : j < vs.length), Rep w I κ (rs[j]) (vs[j]) := by
    intro rs hrs
    obtain ⟨vs, hvs, hlen, hreps⟩ := run_resL h hrs
    refine ⟨vs, ?_, hlen, hreps⟩
    rw [results_eq, Sem.run_bind, Array.mapM_eq_mapM_toList, Sem.run_map, hvs]
    rfl
  split at hr
  · rename_i r' hrs
    obtain rfl := Option.some.inj hr
    obtain ⟨vs, hvs, hlen, hreps⟩ := key _ hrs
    obtain ⟨v, rfl⟩ : ∃ v, vs = [v] := by
      match vs, hlen with
      | [v], _ => exact ⟨v, rfl⟩
    exact ⟨v, by rw [hvs]; rfl, hreps 0 (by simp) (by simp)⟩
  · rename_i l hne hrs
    obtain rfl := Option.some.inj hr
    obtain ⟨vs, hvs, hlen, hreps⟩ := key _ hrs
    refine ⟨.tuple vs.toArray, ?_, .tup hlen hreps⟩
    rw [hvs, dif_neg]
    intro e
    simp only [List.size_toArray] at e
    match l, hlen with
    | [], hl => rw [hl] at e; simp at e
    | [x], _ => exact hne x rfl
    | x :: y :: r, hl => rw [hl] at e; simp at e
  · simp at hr
def argSlots : List AVal → Nat → List (Nat × AVal)
  | [], _ => []
  | x :: r, i => (i, x) :: argSlots r (i + 1)
theorem argSlots_look : ∀ (l : List AVal) (i x : Nat), look (argSlots l i) x = if i ≤ x then l[x - i]? else none := by
  intro l
  induction l with
  | nil => intro i x; simp [argSlots, look]
  | cons y r ih =>
    intro i x
    rw [argSlots, look_cons, ih]
    by_cases e : i = x
    · subst e; simp
    · rw [if_neg e]
      by_cases h : i ≤ x
      · rw [if_pos h, if_pos (by omega)]
        obtain ⟨m, rfl⟩ : ∃ m, x = i + 1 + m := ⟨x - (i + 1), by omega⟩
        rw [show i + 1 + m - i = m + 1 from by omega, show i + 1 + m - (i + 1) = m from by omega]; simp
      · rw [if_neg h, if_neg (by omega)]
def retQ (P : Program) (fn : Func) (Q : AVal → List (Nat × Option MObj) → Prop) (floor : Nat) (e : Exit) (s : AState) : Prop :=
  (e = .ret ∨ e = .normal) ∧ s.floor = floor ∧ ∃ r, resOf P fn s = some r ∧ Q r s.objs
theorem Fn.body {P : Program} {f : FuncId} {fn : Func} {c : Code} {args : List AVal} {objs : List (Nat × Option MObj)} {floor : Nat} {Q : AVal → List (Nat × Option MObj) → Prop}
    (hf : P.funcs[f]? = some fn) (hb : fn.body = some c) (hn : Nat.ble args.length fn.ntmps = true)
    (h : ∀ Γ : Ctx, Γ.P = P → Γ.n = fn.ntmps → AWp Γ c (retQ P fn Q floor) ⟨argSlots args 0, objs, floor⟩) : Fn P f args objs floor Q := by
  intro κ I w vs hl hreps hg hinv
  have hle : args.length ≤ fn.ntmps := Nat.le_of_ble_eq_true hn
  refine calls_of_wp hf hb ?_
  let Γ : Ctx := entryCtx P fn.ntmps κ I ⟨[], objs, floor⟩ w hg
  have hsat : Sat Γ ⟨argSlots args 0, objs, floor⟩ { tmps := vs.toArray ++ Array.replicate (fn.ntmps - vs.toArray.size) undef, defers := [] } w := by
    refine ⟨κ, I, ?_, rfl, fun x => ?_, ⟨hinv.objs, hinv.inj, hinv.disj, hinv.bound, hinv.keep, hinv.ikeep, hinv.fromI, hinv.fromO, hinv.fix⟩⟩
    · show (vs.toArray ++ Array.replicate (fn.ntmps - vs.toArray.size) undef).size = fn.ntmps
      simp [hl]; omega
    · show Rep w I κ ((look (argSlots args 0) x).getD .top) _
      rw [argSlots_look, if_pos (Nat.zero_le _), Nat.sub_zero]
      by_cases hx : x < args.length
      · rw [List.getElem?_eq_getElem hx]
        have : (vs.toArray ++ Array.replicate (fn.ntmps - vs.toArray.size) undef).getD x undef = vs[x]'(by omega) := by
          rw [Array.getD_eq_getD_getElem?, Array.getElem?_append_left (by simp; omega)]
          simp [hl, hx]
        rw [this]
        exact hreps x hx (by omega)
      · rw [List.getElem?_eq_none (by omega)]; exact .top _
  refine Code.wp_mono (fun e a' w' ⟨s', h1, h2⟩ => ?_) (h Γ rfl rfl _ _ hsat)
  obtain ⟨he, hfl, r, hr, hq⟩ := h2
  obtain ⟨κ', I', hrel⟩ := h1
  obtain ⟨v, hv, hrep⟩ := run_resOf hrel hr
  have hinv' : Inv (entryCtx P 0 κ I ⟨[], objs, floor⟩ w hg) κ' I' ⟨[], s'.objs, floor⟩ w' :=
    ⟨hrel.inv.objs, hrel.inv.inj, hrel.inv.disj, hrel.inv.bound, hrel.inv.keep, hrel.inv.ikeep, hrel.inv.fromI, hrel.inv.fromO, fun k hk => hrel.inv.fix k (by rw [hfl]; exact hk)⟩
  rcases he with rfl | rfl
  · exact ⟨hrel.defers, v, hv, v, r, s'.objs, κ', I', rfl, hq, hrep, hinv'⟩
  · exact ⟨hrel.defers, v, hv, v, r, s'.objs, κ', I', rfl, hq, hrep, hinv'⟩
end Go.Pv
set_option linter.unusedVariables false
set_option linter.unusedSimpArgs false
namespace Go.Pv
mutual
def pass (inv : List (Nat × Nat)) (views : List (Nat × List (List Im))) : AVal → AVal
  | .own k => match look views k with
    | some es => .im (.row es)
    | none => match look inv k with
      | some kc => .own kc
      | none => .top
  | .mown k => match look inv k with
    | some kc => .mown kc
    | none => .top
  | .cut k lo n => match look inv k with
    | some kc => .cut kc lo n
    | none => .top
  | .sub k lo n => match look views k with
    | some es => .im (.row ((es.drop lo).take n))
    | none => match look inv k with
      | some kc => .sub kc lo n
      | none => .top
  | .ptr k e j => match look inv k with
    | some kc => .ptr kc e j
    | none => .top
  | .agg l => .agg (passL inv views l)
  | .tup l => .tup (passL inv views l)
  | .fn g l => .fn g (passL inv views l)
  | .gl g => .gl g
  | .top => .top
  | .im x => .im x
  | .none0 => .none0
  | .ip c => .ip c
def passL (inv : List (Nat × Nat)) (views : List (Nat × List (List Im))) : List AVal → List AVal
  | [] => []
  | x :: r => pass inv views x :: passL inv views r
end
theorem passL_eq (inv : List (Nat × Nat)) (views : List (Nat × List (List Im))) : ∀ l, passL inv views l = l.map (pass inv views)
  | [] => rfl
  | x :: r => by rw [passL, passL_eq inv views r, List.map_cons]
def passLL (inv : List (Nat × Nat)) (views : List (Nat × List (List Im))) : List (List AVal) → List (List AVal)
  | [] => []
  | g :: r => passL inv views g :: passLL inv views r
theorem passLL_eq (inv : List (Nat × Nat)) (views : List (Nat × List (List Im))) : ∀ l, passLL inv views l = l.map (passL inv views)
  | [] => rfl
  | x :: r => by rw [passLL, passLL_eq inv views r, List.map_cons]
theorem ARow.tail {w w' : World} {I I' : Nat → Prop} {κ κ' : Nat → Option KI} {ki : KI} {sz el : Nat} {es : List (List Im)} {fs fs' : List (List AVal)} (h : ARow w I κ ki sz el (imL es ++ fs)) (hI : ∀ b, I b → I' b) (hw : ∀ b, I b → w'.heap[b]? = w.heap[b]?) (hl : fs'.length = fs.length)
    (hr : ∀ i (h : i < fs.length) (h' : i < fs'.length), (fs'[i]).length = (fs[i]).length ∧ ∀ j (g : j < (fs[i]).length) (g' : j < (fs'[i]).length) v, Rep w I κ ((fs[i])[j]) v → Rep w' I' κ' ((fs'[i])[j]) v)
    (hb : w'.heap[ki.b]? = w.heap[ki.b]?) : ARow w' I' κ' ki sz el (imL es ++ fs') := by
  refine h.imp (by simp [hl]) (fun i hi hi' => ?_) hb
  by_cases hlt : i < (imL es).length
  · have e1 : (imL es ++ fs)[i] = (imL es)[i] := List.getElem_append_left hlt
    have e2 : (imL es ++ fs')[i] = (imL es)[i] := List.getElem_append_left hlt
    refine ⟨by rw [e1, e2], fun j g g' v r => ?_⟩
    simp only [e1, e2, imL_get] at r g g' ⊢
    simp only [List.getElem_map] at r ⊢
    cases r with
    | im r => exact .im (r.mono hI hw)
  · have e1 : (imL es ++ fs)[i] = fs[i - (imL es).length]'(by simp at hi hlt ⊢; omega) := List.getElem_append_right (by omega)
    have e2 : (imL es ++ fs')[i] = fs'[i - (imL es).length]'(by simp at hi' hlt ⊢; omega) := List.getElem_append_right (by omega)
    obtain ⟨g1, g2⟩ := hr (i - (imL es).length) (by simp at hi hlt ⊢; omega) (by simp at hi' hlt ⊢; omega)
    refine ⟨by rw [e1, e2]; exact g1, fun j g g' v r => ?_⟩
    simp only [e1, e2] at r g g' ⊢
    exact g2 j g g' v r
def MObj.pass (inv : List (Nat × Nat)) (views : List (Nat × List (List Im))) : MObj → MObj
  | .row sz el es => .row sz el es
  | .box el cells => .box el (passL inv views cells)
  | .map es => .map es
  | .iter m n sn => .iter (m.bind (look inv)) n sn
  | .arow sz el es fs => .arow sz el es (passLL inv views fs)
  | .amap ks xs => .amap ks (passL inv views xs)
  | .dmap es => .dmap es
  | .gmap ks xs bs c => .gmap ks (passL inv views xs) bs c
  | .niter => .niter
theorem pass_rep {w : World} {I I' : Nat → Prop} {κ κc : Nat → Option KI} {inv : List (Nat × Nat)} {views : List (Nat × List (List Im))} (hI : ∀ b, I b → I' b)
    (hinv : ∀ k kc, look inv k = some kc → κc kc = κ k) (hv : ∀ k es, look views k = some es → (∃ sz el, OAt w I κ k (.row sz el es)) ∧ ∀ ki, κ k = some ki → I' ki.b) {x : AVal} {v : Value}
    (h : Rep w I κ x v) : Rep w I' κc (pass inv views x) v := by
  induction h with
  | gl g => exact .gl g
  | top v => exact .top v
  | im h => exact .im (h.mono hI (fun _ _ => rfl))
  | none0 base => exact .none0 base
  | @own0 k base e =>
    simp only [pass]
    cases e1 : look views k with
    | some es =>
      obtain ⟨⟨sz, el, ho⟩, _⟩ := hv k es e1
      simp only [OAt, e] at ho
      obtain ⟨sz', el', ho⟩ := ho
      simp only [MObj.row.injEq] at ho
      obtain ⟨_, _, rfl⟩ := ho
      exact .im (.row0 base 0)
    | none =>
      dsimp only
      cases e2 : look inv k with
      | some kc => exact .own0 base ((hinv _ _ e2).trans e)
      | none => exact .top _
  | @own k ki e =>
    simp only [pass]
    cases e1 : look views k with
    | some es =>
      obtain ⟨⟨sz, el, ho⟩, hb⟩ := hv k es e1
      simp only [OAt, e, ORep] at ho
      obtain ⟨h1, h2, h3, arr, h4, h5, h6⟩ := ho
      refine .im (.row (sz := sz) (fun i j => arr[i * sz + j]?.getD undef) h2 (hb ki e) (by omega) (fun i h => (h6 i h).1) (fun i j hi hj => ?_) (fun i h j h' => ?_))
      · obtain ⟨g1, g2⟩ := h6 i hi
        obtain ⟨u, g3, g4⟩ := g2 j (by omega)
        rw [cell_of h4, Nat.zero_add]; simp [g3]
      · obtain ⟨u, g3, g4⟩ := (h6 i h).2 j h'
        simp only [g3, Option.getD_some]; exact g4.mono hI (fun _ _ => rfl)
    | none =>
      dsimp only
      cases e2 : look inv k with
      | some kc => exact .own ((hinv _ _ e2).trans e)
      | none => exact .top _
  | @mown k ki e =>
    simp only [pass]
    cases e2 : look inv k with
    | some kc => exact .mown ((hinv _ _ e2).trans e)
    | none => exact .top _
  | @cut0 k base e =>
    simp only [pass]
    cases e2 : look inv k with
    | some kc => exact .cut0 base ((hinv _ _ e2).trans e)
    | none => exact .top _
  | @cut k lo n off ki e h1 h2 =>
    simp only [pass]
    cases e2 : look inv k with
    | some kc => exact .cut ((hinv _ _ e2).trans e) h1 h2
    | none => exact .top _
  | @sub0 k base e =>
    simp only [pass]
    cases e1 : look views k with
    | some es =>
      exact .im (by rw [List.take_zero]; exact .row0 base 0)
    | none =>
      dsimp only
      cases e2 : look inv k with
      | some kc => exact .sub0 base ((hinv _ _ e2).trans e)
      | none => exact .top _
  | @sub k lo n off ki e g1 g2 g3 =>
    simp only [pass]
    cases e1 : look views k with
    | some es =>
      obtain ⟨⟨sz, el, ho⟩, hb⟩ := hv k es e1
      simp only [OAt, e, ORep] at ho
      obtain ⟨h1, h2, h3, arr, h4, h5, h6⟩ := ho
      dsimp only
      by_cases hn0 : n = 0
      · subst hn0; rw [List.take_zero]; exact .im (.row0 _ _)
      have hoff : off = lo * sz := by
        rcases g1 with g1 | g1
        · rw [g1, h1]
        · omega
      subst hoff
      have hlen : ((es.drop lo).take n).length = n := by rw [List.length_take, List.length_drop]; omega
      have hget : ∀ i (hi : i < ((es.drop lo).take n).length), ((es.drop lo).take n)[i] = es[lo + i]'(by omega) := fun i hi => by rw [List.getElem_take, List.getElem_drop]
      refine .im (.row (sz := sz) (fun i j => arr[(lo + i) * sz + j]?.getD undef) hlen.symm (hb ki e) (by omega) (fun i h => by rw [hget i h]; exact (h6 (lo + i) (by omega)).1) (fun i j hi hj => ?_) (fun i h j h' => ?_))
      · obtain ⟨q1, q2⟩ := h6 (lo + i) (by omega)
        obtain ⟨u, q3, q4⟩ := q2 j (by omega)
        rw [cell_of h4, show lo * sz + (i * sz + j) = (lo + i) * sz + j by rw [Nat.add_mul]; omega]; simp [q3]
      · have h'' : j < (es[lo + i]'(by omega)).length := by rw [hget i h] at h'; exact h'
        obtain ⟨u, q3, q4⟩ := (h6 (lo + i) (by omega)).2 j h''
        have e5 : ((es.drop lo).take n)[i][j] = (es[lo + i]'(by omega))[j] := by congr 1; exact hget i h
        rw [e5]
        simp only [q3, Option.getD_some]; exact q4.mono hI (fun _ _ => rfl)
    | none =>
      dsimp only
      cases e2 : look inv k with
      | some kc => exact .sub ((hinv _ _ e2).trans e) g1 g2 g3
      | none => exact .top _
  | @ptr k e j ki ek =>
    simp only [pass]
    cases e2 : look inv k with
    | some kc => exact .ptr ((hinv _ _ e2).trans ek)
    | none => exact .top _
  | ip u hb hc hr => exact .ip u (hI _ hb) hc (fun j h => (hr j h).mono hI (fun _ _ => rfl))
  | agg hl hr ih => simp only [pass, passL_eq]; exact .agg (by simpa using hl) (fun j h h' => by rw [List.getElem_map]; exact ih j (by simpa using h) h')
  | tup hl hr ih => simp only [pass, passL_eq]; exact .tup (by simpa using hl) (fun j h h' => by rw [List.getElem_map]; exact ih j (by simpa using h) h')
  | fn hl hr ih => simp only [pass, passL_eq]; exact .fn (by simpa using hl) (fun j h h' => by rw [List.getElem_map]; exact ih j (by simpa using h) h')
theorem pass_obj {w : World} {I I' : Nat → Prop} {κ κc : Nat → Option KI} {inv : List (Nat × Nat)} {views : List (Nat × List (List Im))} (hI : ∀ b, I b → I' b)
    (hinv : ∀ k kc, look inv k = some kc → κc kc = κ k) (hv : ∀ k es, look views k = some es → (∃ sz el, OAt w I κ k (.row sz el es)) ∧ ∀ ki, κ k = some ki → I' ki.b) {k kc : Nat} {o : MObj}
    (hk : κc kc = κ k) (h : OAt w I κ k o) : OAt w I' κc kc (o.pass inv views) := by
  unfold OAt at h ⊢
  rw [hk]
  cases e : κ k with
  | none => rw [e] at h; obtain ⟨sz, el, rfl⟩ := h; exact ⟨sz, el, rfl⟩
  | some ki =>
    rw [e] at h
    cases o with
    | row sz el es =>
      obtain ⟨h1, h2, h3, arr, h4, h5, h6⟩ := h
      exact ⟨h1, h2, h3, arr, h4, h5, fun i hi => ⟨(h6 i hi).1, fun j hj => let ⟨u, a, b⟩ := (h6 i hi).2 j hj; ⟨u, a, b.mono hI (fun _ _ => rfl)⟩⟩⟩
    | box el cells =>
      obtain ⟨h1, h2, arr, h4, h5, h6⟩ := h
      simp only [MObj.pass, passL_eq]
      refine ⟨h1, by simpa using h2, arr, h4, by simpa using h5, fun j hj => ?_⟩
      rw [List.length_map] at hj
      obtain ⟨u, a, b⟩ := h6 j hj
      exact ⟨u, a, by rw [List.getElem_map]; exact pass_rep hI hinv hv b⟩
    | map es =>
      obtain ⟨arr, h1, h2, h3⟩ := h
      exact ⟨arr, h1, h2, fun i hi => let ⟨e, g1, g2, g3, g4⟩ := h3 i hi; ⟨e, g1, g2, g3, g4.mono hI (fun _ _ => rfl)⟩⟩
    | iter m n sn =>
      obtain ⟨bm, h1, h2⟩ := h
      refine ⟨bm, h1, fun m' e => ?_⟩
      cases m with
      | none => simp at e
      | some m0 =>
        obtain ⟨km, g1, g2⟩ := h2 m0 rfl
        exact ⟨km, (hinv m0 m' e).trans g1, g2⟩
    | dmap es =>
      obtain ⟨arr, h1, h2, h3⟩ := h
      exact ⟨arr, h1, h2, fun i hi => let ⟨e, g1, g2, g3, g4⟩ := h3 i hi; ⟨e, g1, g2, g3, g4.mono hI (fun _ _ => rfl) (fun _ _ => rfl)⟩⟩
    | niter => exact h
    | gmap ks xs bs c =>
      obtain ⟨h0, p1, p2, p3, p4, arr, h1, h2, h3⟩ := h
      simp only [MObj.pass, passL_eq]
      refine ⟨by simpa using h0, p1, p2, p3, p4, arr, h1, h2, fun i hi => let ⟨e, g1, g2, g3, g4⟩ := h3 i hi; ⟨e, g1, g2, g3, fun h' => ?_⟩⟩
      rw [List.length_map] at h'
      rw [List.getElem_map]; exact pass_rep hI hinv hv (g4 h')
    | amap ks xs =>
      obtain ⟨h0, arr, h1, h2, h3⟩ := h
      simp only [MObj.pass, passL_eq]
      refine ⟨by simpa using h0, arr, h1, h2, fun i hi => let ⟨e, g1, g2, g3, g4⟩ := h3 i hi; ⟨e, g1, g2, g3, fun h' => ?_⟩⟩
      rw [List.length_map] at h'
      rw [List.getElem_map]; exact pass_rep hI hinv hv (g4 h')
    | arow sz el es fs =>
      show ARow w I' κc ki sz el (imL es ++ passLL inv views fs)
      refine ARow.tail h hI (fun _ _ => rfl) (by rw [passLL_eq, List.length_map]) (fun i hi hi' => ?_) rfl
      have e3 : (passLL inv views fs)[i] = (fs[i]).map (pass inv views) := by simp only [passLL_eq, List.getElem_map, passL_eq]
      refine ⟨by rw [e3, List.length_map], fun j g g' v r => ?_⟩
      simp only [e3, List.getElem_map]
      exact pass_rep hI hinv hv r
def AVal.flat : AVal → Bool
  | .im (.sc _) => true
  | .none0 => true
  | .top => true
  | .tup l => flatL l
  | .agg l => flatL l
  | _ => false
where flatL : List AVal → Bool
  | [] => true
  | .im (.sc _) :: r => flatL r
  | .none0 :: r => flatL r
  | .top :: r => flatL r
  | _ => false
theorem none0_inv {w : World} {I : Nat → Prop} {κ : Nat → Option KI} {v : Value} (h : Rep w I κ .none0 v) : ∃ base, v = .slice base 0 0 := by
  cases h; exact ⟨_, rfl⟩
def swapL (l : List (Nat × Nat)) : List (Nat × Nat) := l.map fun p => (p.2, p.1)
def inObjs (s : AState) (inv : List (Nat × Nat)) (views : List (Nat × List (List Im))) : List (Nat × Option MObj) :=
  inv.map fun p => (p.2, (s.obj p.1).map (MObj.pass inv views))
def isNil {α : Type} : List α → Bool
  | [] => true
  | _ => false
def callKeeps (inv out : List (Nat × Nat)) (r : AVal) : Bool := isNil out && isNil inv && r.flat
def vkills : Bool → List Nat → List (Nat × Option MObj)
  | true, _ => []
  | false, vk => vk.map fun k => (k, none)
def outObjs (objs : AState) (out : List (Nat × Nat)) (inv : List (Nat × Nat)) (vk : List Nat) (keep : Bool) : List (Nat × Option MObj) :=
  (out.map fun p => (p.2, (objs.obj p.1).map (MObj.pass out []))) ++ (inv.map fun p => (p.1, none)) ++ vkills keep vk
def keysOK (inv out : List (Nat × Nat)) (views : List (Nat × List (List Im))) (news : List Nat) (floor : Nat) : Bool :=
  distinct (inv.map (·.1)) && distinct (inv.map (·.2)) && distinct (out.map (·.1)) && distinct (out.map (·.2)) && inv.all (fun p => Nat.blt p.2 floor) &&
  out.all (fun p => match Nat.blt p.1 floor with
    | true => match look inv p.2 with
      | some kc => Nat.beq kc p.1
      | none => false
    | false => isIn p.2 news) && apart (inv.map (·.1)) (views.map (·.1))
where distinct : List Nat → Bool
  | [] => true
  | x :: r => !(isIn x r) && distinct r
theorem distinct_iff : ∀ {l : List Nat}, keysOK.distinct l = true ↔ l.Nodup := by
  intro l
  induction l with
  | nil => simp [keysOK.distinct]
  | cons x r ih =>
    have : isIn x r = false ↔ x ∉ r := by rw [← isIn_iff]; simp
    simp [keysOK.distinct, ih, this]
theorem look_mem {α : Type} {l : List (Nat × α)} {k : Nat} {v : α} (h : look l k = some v) : (k, v) ∈ l := by
  induction l with
  | nil => simp [look] at h
  | cons p l ih =>
    obtain ⟨i, u⟩ := p
    rw [look_cons] at h
    by_cases e : i = k
    · rw [if_pos e] at h; simp at h; simp [e, h]
    · rw [if_neg e] at h; exact List.mem_cons_of_mem _ (ih h)
theorem look_of_mem {α : Type} {l : List (Nat × α)} (hn : (l.map (·.1)).Nodup) {k : Nat} {v : α} (h : (k, v) ∈ l) : look l k = some v := by
  induction l with
  | nil => simp at h
  | cons p l ih =>
    obtain ⟨i, u⟩ := p
    simp only [List.map_cons, List.nodup_cons] at hn
    rw [look_cons]
    rcases List.mem_cons.1 h with h | h
    · simp at h; rw [if_pos h.1.symm, h.2]
    · rw [if_neg, ih hn.2 h]
      rintro rfl
      exact hn.1 (List.mem_map.2 ⟨_, h, rfl⟩)
def funOf (v : AVal) : Option (Nat × List AVal) :=
  match v with
  | .im (.sc (.func (.func g) ⟨[]⟩ ⟨[]⟩)) => some (g, [])
  | .fn g caps => some (g, caps)
  | _ => none
theorem funOf_rep {w : World} {I : Nat → Prop} {κ : Nat → Option KI} {x : AVal} {v : Value} {g : Nat} {caps : List AVal} (h : Rep w I κ x v) (hx : funOf x = some (g, caps)) :
    ∃ vs : List Value, v = .func (.func g) #[] vs.toArray ∧ vs.length = caps.length ∧ ∀ j (h : j < caps.length) (h' : j < vs.length), Rep w I κ (caps[j]) (vs[j]) := by
  unfold funOf at hx
  split at hx
  · simp at hx; obtain ⟨rfl, rfl⟩ := hx
    exact ⟨[], h.sc_inv, rfl, fun j h => absurd h (Nat.not_lt_zero _)⟩
  · simp at hx; obtain ⟨rfl, rfl⟩ := hx
    cases h with
    | fn hl hr => exact ⟨_, rfl, hl, hr⟩
  · simp at hx
mutual
def rowed : AVal → AVal
  | .none0 => .im (.row [])
  | .agg l => .agg (rowedL l)
  | x => x
def rowedL : List AVal → List AVal
  | [] => []
  | x :: r => rowed x :: rowedL r
end
theorem rowedL_eq : ∀ l, rowedL l = l.map rowed
  | [] => rfl
  | x :: r => by rw [rowedL, rowedL_eq r, List.map_cons]
theorem rowed_rep {w : World} {I : Nat → Prop} {κ : Nat → Option KI} {x : AVal} {v : Value} (h : Rep w I κ x v) : Rep w I κ (rowed x) v := by
  induction h with
  | none0 base => exact .im (.row0 base 0)
  | @agg cells vs hl hr ih =>
    simp only [rowed, rowedL_eq]
    refine .agg (by simpa using hl) (fun j h h' => ?_)
    rw [List.getElem_map]
    exact ih j (by simpa using h) h'
  | gl g => exact .gl g
  | top v => exact .top v
  | im h => exact .im h
  | own0 base e => exact .own0 base e
  | own e => exact .own e
  | mown e => exact .mown e
  | cut0 base e => exact .cut0 base e
  | cut e h1 h2 => exact .cut e h1 h2
  | sub0 base e => exact .sub0 base e
  | sub e h1 h2 h3 => exact .sub e h1 h2 h3
  | ptr e => exact .ptr e
  | ip u hb hc hr => exact .ip u hb hc hr
  | tup hl hr => exact .tup hl hr
  | fn hl hr => exact .fn hl hr
def flat2 : AVal → Bool
  | .im (.sc _) => true
  | .none0 => true
  | .top => true
  | .own _ => true
  | .tup l => flat2L l
  | .agg l => flat2L l
  | _ => false
where flat2L : List AVal → Bool
  | [] => true
  | .im (.sc _) :: r => flat2L r
  | .none0 :: r => flat2L r
  | .top :: r => flat2L r
  | .own _ :: r => flat2L r
  | _ => false
theorem flat2L_get : ∀ {l : List AVal}, flat2.flat2L l = true → ∀ j (h : j < l.length), (∃ v, l[j] = .im (.sc v)) ∨ l[j] = .none0 ∨ l[j] = .top ∨ ∃ k, l[j] = .own k := by
  intro l
  induction l with
  | nil => intro _ j h; simp at h
  | cons x r ih =>
    intro hf j h
    have : ((∃ v, x = .im (.sc v)) ∨ x = .none0 ∨ x = .top ∨ ∃ k, x = .own k) ∧ flat2.flat2L r = true := by
      cases x with
      | im y => cases y <;> simp [flat2.flat2L] at hf ⊢; exact hf
      | _ => simp [flat2.flat2L] at hf ⊢ <;> exact hf
    cases j with
    | zero => exact this.1
    | succ j => exact ih this.2 j (by simpa using h)
theorem flat2_of {x : AVal} (h : x.flat = true) : flat2 x = true := by
  have key : ∀ l, AVal.flat.flatL l = true → flat2.flat2L l = true := by
    intro l
    induction l with
    | nil => exact fun _ => rfl
    | cons x r ih =>
      intro hf
      cases x with
      | im y => cases y <;> simp [AVal.flat.flatL] at hf; simp [flat2.flat2L, ih hf]
      | none0 => simp [AVal.flat.flatL] at hf; simp [flat2.flat2L, ih hf]
      | top => simp [AVal.flat.flatL] at hf; simp [flat2.flat2L, ih hf]
      | _ => simp [AVal.flat.flatL] at hf
  cases x with
  | im y => cases y <;> simp [AVal.flat] at h; rfl
  | agg l => exact key l h
  | tup l => exact key l h
  | top => rfl
  | none0 => rfl
  | _ => simp [AVal.flat] at h
theorem flat2_pass {inv : List (Nat × Nat)} {x : AVal} (h : flat2 x = true) : flat2 (pass inv [] x) = true := by
  have own : ∀ k, pass inv [] (.own k) = .top ∨ ∃ k', pass inv [] (.own k) = .own k' := by
    intro k
    simp only [pass, look]
    cases look inv k with
    | none => exact .inl rfl
    | some k' => exact .inr ⟨k', rfl⟩
  have key : ∀ l, flat2.flat2L l = true → flat2.flat2L (passL inv [] l) = true := by
    intro l
    induction l with
    | nil => exact fun _ => rfl
    | cons x r ih =>
      intro hf
      cases x with
      | im y => cases y <;> simp [flat2.flat2L] at hf; simp [passL, pass, flat2.flat2L, ih hf]
      | none0 => simp [flat2.flat2L] at hf; simp [passL, pass, flat2.flat2L, ih hf]
      | top => simp [flat2.flat2L] at hf; simp [passL, pass, flat2.flat2L, ih hf]
      | own k =>
        simp [flat2.flat2L] at hf
        rw [passL]
        rcases own k with e | ⟨k', e⟩ <;> rw [e] <;> simp [flat2.flat2L, ih hf]
      | _ => simp [flat2.flat2L] at hf
  cases x with
  | im y => exact h
  | agg l => exact key l h
  | tup l => exact key l h
  | top => rfl
  | none0 => rfl
  | own k => rcases own k with e | ⟨k', e⟩ <;> rw [e] <;> rfl
  | _ => simp [flat2] at h
theorem flat2_rep {w : World} {I I' : Nat → Prop} {κ : Nat → Option KI} {x : AVal} {v : Value} (h : Rep w I κ x v) (hf : flat2 x = true) : Rep w I' κ x v := by
  have own : ∀ {k : Nat} {v : Value}, Rep w I κ (.own k) v → Rep w I' κ (.own k) v := by
    intro k v h
    cases h with
    | own0 b e => exact .own0 b e
    | own e => exact .own e
  cases h with
  | top v => exact .top v
  | im h => cases h with
    | sc v => exact .im (.sc v)
    | _ => simp [flat2] at hf
  | none0 b => exact .none0 b
  | own0 b e => exact .own0 b e
  | own e => exact .own e
  | agg hl hr =>
    refine .agg hl (fun j h h' => ?_)
    have := hr j h h'
    rcases flat2L_get hf j h with ⟨v, e⟩ | e | e | ⟨k, e⟩ <;> rw [e] at this ⊢
    · rw [this.sc_inv]; exact .im (.sc v)
    · obtain ⟨base, e'⟩ := none0_inv this; rw [e']; exact .none0 _
    · exact .top _
    · exact own this
  | tup hl hr =>
    refine .tup hl (fun j h h' => ?_)
    have := hr j h h'
    rcases flat2L_get hf j h with ⟨v, e⟩ | e | e | ⟨k, e⟩ <;> rw [e] at this ⊢
    · rw [this.sc_inv]; exact .im (.sc v)
    · obtain ⟨base, e'⟩ := none0_inv this; rw [e']; exact .none0 _
    · exact .top _
    · exact own this
  | _ => simp [flat2] at hf
def ScObj (o : MObj) : Prop := ∃ sz el es, o = .row sz el es ∧ ∀ c ∈ es, ∀ x ∈ c, ∃ v, x = .sc v
theorem ok_callG {P : Program} {o : Oper} {s : AState} {fo : Operand} {as : Array Operand} {ts : Array TypeId} {g : Nat} {caps : List AVal}
    (inv out : List (Nat × Nat)) (views : List (Nat × List (List Im))) (news : List Nat) (floor : Nat) {args' : List AVal} {r : AVal} {objs' : List (Nat × Option MObj)}
    (tr : AVal → AVal) (htr : ∀ (w : World) (I : Nat → Prop) (κ : Nat → Option KI) (x : AVal) (v : Value), Rep w I κ x v → Rep w I κ (tr x) v) (ho : o.op = .call { callee := .value fo, args := as, argTypes := ts }) (hfo : funOf (s.eval fo) = some (g, caps)) (henter : ∀ (args : Array Value) (w : World), (callFunc g args).run P w = .ok (.enter g args) w) (hargs : args' = (as.toList.map s.eval ++ caps).map (fun x => tr (pass inv views x)))
    (hviews : ∀ p ∈ views, ∃ sz el, s.obj p.1 = some (.row sz el p.2)) (hlive : inv.all (fun p => (s.obj p.1).isSome) = true) (hkeys : keysOK inv out views news floor = true)
    (hfn : Fn P g args' (inObjs s inv views) floor (fun r' o' => r' = r ∧ o' = objs')) (keep : Bool) (hkc : keep = true → flat2 r = true ∧ ∀ kc k o, (kc, k) ∈ out → (⟨[], objs', 0⟩ : AState).obj kc = some o → ScObj o) :
    OpOK P o (mkSp s o (inv.map (·.1) ++ views.map (·.1)) news (pass out [] r) (outObjs ⟨[], objs', 0⟩ out inv (views.map (·.1)) keep)) := by
  intro Γ hP hd s2 a w ⟨κ, I, hr⟩ hn hfresh K Q hK
  have hevalfo := hr.eval fo
  rw [needs_eval hn fo (by simp [ho, Op.operands, Call.operands])] at hevalfo
  obtain ⟨cvs, hfv, hclen, hcreps⟩ := funOf_rep hevalfo hfo
  have hrun : (execOp a.eval o).run P w = .ok (.enter g ((as.toList.map a.eval ++ cvs).toArray)) w := by
    simp only [execOp, ho, resolve, hfv, Deferred.ofValue, Sem.run_bind, Sem.run_pure, Result.andThen_ok, invoke]
    rw [henter]
    congr 2
    rw [Array.empty_append, ← Array.toList_inj]; simp
  show o.upon P a K Q ((execOp a.eval o).run P w)
  rw [hrun]
  show Calls P g _ w _
  simp only [keysOK, Bool.and_eq_true] at hkeys
  obtain ⟨⟨⟨⟨⟨⟨k1, k2⟩, k3⟩, k4⟩, k5⟩, k6⟩, k7⟩ := hkeys
  rw [distinct_iff] at k1 k2 k3 k4
  rw [apart_iff] at k7
  have hobj2 : ∀ k, k ∈ inv.map (·.1) ++ views.map (·.1) → s2.obj k = s.obj k := fun k hk => needs_obj hn k hk
  have hk2' : ((swapL inv).map (·.1)).Nodup := by simpa [swapL, Function.comp_def] using k2
  let κc : Nat → Option KI := fun kc => match look (swapL inv) kc with
    | some k => κ k
    | none => none
  have hκc : ∀ k kc, look inv k = some kc → κc kc = κ k := by
    intro k kc h
    have : look (swapL inv) kc = some k := look_of_mem hk2' (List.mem_map.2 ⟨(k, kc), look_mem h, rfl⟩)
    simp only [κc, this]
  let Ic : Nat → Prop := fun b => I b ∨ ∃ k es ki, look views k = some es ∧ κ k = some ki ∧ ki.b = b
  have hIc : ∀ b, I b → Ic b := fun b h => .inl h
  have hviewO : ∀ k es, look views k = some es → ∃ sz el, s2.obj k = some (.row sz el es) := by
    intro k es h
    have hm := look_mem h
    obtain ⟨sz, el, e⟩ := hviews _ hm
    exact ⟨sz, el, (hobj2 k (by simp only [List.mem_append]; exact .inr (List.mem_map.2 ⟨_, hm, rfl⟩))).trans e⟩
  have hv : ∀ k es, look views k = some es → (∃ sz el, OAt w I κ k (.row sz el es)) ∧ ∀ ki, κ k = some ki → Ic ki.b := by
    intro k es h
    obtain ⟨sz, el, e⟩ := hviewO k es h
    exact ⟨⟨sz, el, hr.inv.objs k _ e⟩, fun ki hκ => .inr ⟨k, es, ki, h, hκ, rfl⟩⟩
  have hinvO : ∀ k kc, (k, kc) ∈ inv → ∃ o, s2.obj k = some o ∧ s.obj k = some o := by
    intro k kc hm
    have := List.all_eq_true.1 hlive _ hm
    obtain ⟨o, e⟩ := Option.isSome_iff_exists.1 this
    exact ⟨o, (hobj2 k (by simp only [List.mem_append]; exact .inl (List.mem_map.2 ⟨_, hm, rfl⟩))).trans e, e⟩
  have hnotview : ∀ k kc, (k, kc) ∈ inv → look views k = none := by
    intro k kc hm
    exact look_none (fun h => k7 k (List.mem_map.2 ⟨_, hm, rfl⟩) h)
  have hin : ∀ kc o, (⟨[], inObjs s inv views, floor⟩ : AState).obj kc = some o → ∃ k oc, look inv k = some kc ∧ (k, kc) ∈ inv ∧ s2.obj k = some oc ∧ o = oc.pass inv views := by
    intro kc o h
    simp only [AState.obj] at h
    cases e : look (inObjs s inv views) kc with
    | none => rw [e] at h; simp at h
    | some ov =>
      rw [e] at h
      have hm := look_mem e
      obtain ⟨p, hp, hpe⟩ := List.mem_map.1 hm
      simp only [Prod.mk.injEq] at hpe
      obtain ⟨rfl, rfl⟩ := hpe
      obtain ⟨oc, e1, e2⟩ := hinvO p.1 p.2 hp
      rw [e2] at h
      exact ⟨p.1, oc, look_of_mem k1 hp, hp, e1, by simpa using h.symm⟩
  have hblock : ∀ k o ki, s2.obj k = some o → κ k = some ki → ki.b < w.heap.size := by
    intro k o ki e eκ
    have := hr.inv.objs k o e
    simp only [OAt, eκ] at this
    cases o with
    | row => obtain ⟨_, _, _, arr, h3, _⟩ := this; exact (Array.getElem?_eq_some_iff.1 h3).1
    | box => obtain ⟨_, _, arr, h3, _⟩ := this; exact (Array.getElem?_eq_some_iff.1 h3).1
    | map => obtain ⟨arr, h3, _⟩ := this; exact (Array.getElem?_eq_some_iff.1 h3).1
    | iter => obtain ⟨bm, h3, _⟩ := this; exact (Array.getElem?_eq_some_iff.1 h3).1
    | arow => obtain ⟨_, _, _, arr, h3, _⟩ := this; exact (Array.getElem?_eq_some_iff.1 h3).1
    | amap => obtain ⟨_, arr, h3, _⟩ := this; exact (Array.getElem?_eq_some_iff.1 h3).1
    | dmap => obtain ⟨arr, h3, _⟩ := this; exact (Array.getElem?_eq_some_iff.1 h3).1
    | gmap => obtain ⟨_, _, _, _, _, arr, h3, _⟩ := this; exact (Array.getElem?_eq_some_iff.1 h3).1
    | niter => exact (Array.getElem?_eq_some_iff.1 this).1
  have hM0 : ∀ b, (∃ kc o ki, (⟨[], inObjs s inv views, floor⟩ : AState).obj kc = some o ∧ κc kc = some ki ∧ ki.b = b) → ¬ I b := by
    rintro b ⟨kc, o, ki, h, f, rfl⟩
    obtain ⟨k, oc, e1, e2, e3, rfl⟩ := hin kc o h
    rw [hκc k kc e1] at f
    exact hr.inv.disj k oc ki e3 f
  have hg : GlobOK P Ic (entryM κc ⟨[], inObjs s inv views, floor⟩) w := ⟨fun g cs e => by
    obtain ⟨t1, t2, t3⟩ := hr.inv.tab (hP ▸ e)
    exact ⟨hIc _ t1, fun hm => hM0 _ hm t1, t2, t3⟩, fun g e => by
    obtain ⟨t1, t2, t3⟩ := hr.inv.err (hP ▸ e)
    exact ⟨hIc _ t1, fun hm => hM0 _ hm t1, t2, t3⟩⟩
  have hentry : Inv (entryCtx P 0 κc Ic ⟨[], inObjs s inv views, floor⟩ w hg) κc Ic ⟨[], inObjs s inv views, floor⟩ w := by
    refine ⟨?_, ?_, ?_, ?_, Keeps.refl _ _, fun _ h => h, fun b h => .inl h, ?_, fun _ _ => rfl⟩
    · intro kc o h
      obtain ⟨k, oc, e1, e2, e3, rfl⟩ := hin kc o h
      exact pass_obj hIc hκc hv (hκc k kc e1) (hr.inv.objs k oc e3)
    · intro kc kc' o o' ki ki' h h' f f' hb
      obtain ⟨k, oc, e1, e2, e3, rfl⟩ := hin kc o h
      obtain ⟨k', oc', e1', e2', e3', rfl⟩ := hin kc' o' h'
      rw [hκc k kc e1] at f; rw [hκc k' kc' e1'] at f'
      have := hr.inv.inj k k' oc oc' ki ki' e3 e3' f f' hb
      subst this
      rw [e1] at e1'; exact Option.some.inj e1'
    · intro kc o ki h f hI
      obtain ⟨k, oc, e1, e2, e3, rfl⟩ := hin kc o h
      rw [hκc k kc e1] at f
      rcases hI with hI | ⟨k', es, ki', h1, h2, h3⟩
      · exact hr.inv.disj k oc ki e3 f hI
      · obtain ⟨sz, el, e4⟩ := hviewO k' es h1
        have := hr.inv.inj k k' oc _ ki ki' e3 e4 f h2 h3.symm
        subst this
        rw [hnotview k kc e2] at h1; simp at h1
    · intro b hI
      rcases hI with hI | ⟨k', es, ki', h1, h2, rfl⟩
      · exact hr.inv.bound b hI
      · obtain ⟨sz, el, e4⟩ := hviewO k' es h1
        exact hblock k' _ ki' e4 h2
    · intro kc o ki h f
      exact .inl ⟨kc, o, ki, h, f, rfl⟩
  have hM : ∀ b, (∃ kc o ki, (⟨[], inObjs s inv views, floor⟩ : AState).obj kc = some o ∧ κc kc = some ki ∧ ki.b = b) → ∃ k o ki, s2.obj k = some o ∧ κ k = some ki ∧ ki.b = b ∧ k ∈ inv.map (·.1) := by
    rintro b ⟨kc, o, ki, h, f, rfl⟩
    obtain ⟨k, oc, e1, e2, e3, rfl⟩ := hin kc o h
    rw [hκc k kc e1] at f
    exact ⟨k, oc, ki, e3, f, rfl, List.mem_map.2 ⟨_, e2, rfl⟩⟩
  have hlenargs : (as.toList.map a.eval ++ cvs).length = args'.length := by rw [hargs]; simp [hclen]
  refine (hfn κc Ic w (as.toList.map a.eval ++ cvs) hlenargs (fun j h h' => ?_) hg hentry).mono ?_
  · subst hargs
    rw [List.getElem_map]
    refine htr _ _ _ _ _ (pass_rep hIc hκc hv ?_)
    simp only [List.length_map, List.length_append, Array.length_toList] at h
    by_cases hj : j < as.size
    · rw [List.getElem_append_left (by simpa using hj), List.getElem_append_left (by simpa using hj)]
      simp only [List.getElem_map, Array.getElem_toList]
      have := hr.eval as[j]
      rwa [needs_eval hn as[j] (by simp [ho, Op.operands, Call.operands])] at this
    · rw [List.getElem_append_right (by simpa using hj), List.getElem_append_right (by simpa using hj)]
      simp only [List.length_map, Array.length_toList]
      have := hcreps (j - as.size) (by omega) (by omega)
      exact this
  rintro e w' ⟨v, r0, objs0, κ', I', rfl, ⟨rfl, rfl⟩, hrep, hout⟩
  show K (a.put o.dst v) w'
  refine hK _ _ ?_
  have hkeepb : ∀ b, b < w.heap.size → (∀ k o ki, s2.obj k = some o → κ k = some ki → ki.b = b → k ∉ inv.map (·.1)) → w'.heap[b]? = w.heap[b]? := by
    intro b hb hno
    refine hout.keep.block b hb (fun hm => ?_)
    obtain ⟨k, o, ki, e1, e2, e3, e4⟩ := hM b hm
    exact hno k o ki e1 e2 e3 e4
  have hIkeep : ∀ b, I b → w'.heap[b]? = w.heap[b]? := fun b hI => hkeepb b (hr.inv.bound b hI) (fun k o ki e1 e2 e3 => absurd (e3 ▸ hI) (hr.inv.disj k o ki e1 e2))
  have hk3' : (out.map (·.1)).Nodup := k3
  have hk4' : ((swapL out).map (·.1)).Nodup := by simpa [swapL, Function.comp_def] using k4
  let κn : Nat → Option KI := fun k => match look (swapL out) k with
    | some kc => κ' kc
    | none => κ k
  have hoc : ∀ kc k', (kc, k') ∈ out → (kc < floor ∧ look inv k' = some kc) ∨ (floor ≤ kc ∧ k' ∈ news) := by
    intro kc k' hm
    have := List.all_eq_true.1 k6 _ hm
    simp only at this
    cases e : Nat.blt kc floor with
    | true =>
      rw [e] at this
      cases e2 : look inv k' with
      | none => rw [e2] at this; simp at this
      | some kc' =>
        rw [e2] at this
        exact .inl ⟨by simpa [Nat.blt_eq] using e, by rw [Nat.eq_of_beq_eq_true this]⟩
    | false =>
      rw [e] at this
      exact .inr ⟨Nat.le_of_not_lt (fun h => by have h' : Nat.blt kc floor = true := by simpa [Nat.blt_eq] using h
                                                rw [h'] at e; simp at e), isIn_iff.1 this⟩
  have hκn_in : ∀ kc k', (kc, k') ∈ out → κn k' = κ' kc := by
    intro kc k' hm
    have : look (swapL out) k' = some kc := look_of_mem hk4' (List.mem_map.2 ⟨(kc, k'), hm, rfl⟩)
    simp only [κn, this]
  have hκn_old : ∀ k, k ∉ news → κn k = κ k := by
    intro k hk
    simp only [κn]
    cases e : look (swapL out) k with
    | none => rfl
    | some kc =>
      have hm := look_mem e
      obtain ⟨p, hp, hpe⟩ := List.mem_map.1 hm
      simp only [Prod.mk.injEq] at hpe
      obtain ⟨rfl, rfl⟩ := hpe
      rcases hoc p.1 p.2 hp with ⟨h1, h2⟩ | ⟨_, h2⟩
      · have h3 := hout.fix p.1 h1
        simp only
        rw [h3]
        exact hκc p.2 p.1 h2
      · exact absurd h2 hk
  have hκout : ∀ kc k', look out kc = some k' → κn k' = κ' kc := fun kc k' h => hκn_in kc k' (look_mem h)
  let In : Nat → Prop := fun b => I b ∨ (keep = false ∧ I' b)
  have hIn : ∀ b, I b → In b := fun b h => .inl h
  have hI'sub : ∀ b, I b → I' b := fun b h => hout.ikeep b (hIc b h)
  have hres : Rep w' In κn (pass out [] r0) v := by
    cases hcc : keep with
    | false => exact pass_rep (I := I') (fun b h => .inr ⟨hcc, h⟩) hκout (fun k es h => by simp [look] at h) hrep
    | true =>
      have h1 := pass_rep (inv := out) (views := []) (I := I') (I' := I') (fun b h => h) hκout (fun k es h => by simp [look] at h) hrep
      exact flat2_rep h1 (flat2_pass (hkc hcc).1)
  have hobjn : ∀ k o, (s2.objput (outObjs ⟨[], objs0, 0⟩ out inv (views.map (·.1)) keep)).obj k = some o →
      (∃ kc oc, (kc, k) ∈ out ∧ (⟨[], objs0, floor⟩ : AState).obj kc = some oc ∧ o = oc.pass out []) ∨ (k ∉ out.map (·.2) ∧ (k ∉ inv.map (·.1) ∧ (keep = false → k ∉ views.map (·.1))) ∧ s2.obj k = some o) := by
    intro k o h
    rw [AState.obj_objput, outObjs, look_append, look_append] at h
    cases e : look (out.map fun p => (p.2, ((⟨[], objs0, 0⟩ : AState).obj p.1).map (MObj.pass out []))) k with
    | some ov =>
      rw [e] at h
      have hm := look_mem e
      obtain ⟨p, hp, hpe⟩ := List.mem_map.1 hm
      simp only [Prod.mk.injEq] at hpe
      obtain ⟨rfl, rfl⟩ := hpe
      simp only [Option.some_or, Option.getD_some, Option.map_eq_some_iff] at h
      obtain ⟨oc, e1, e2⟩ := h
      exact .inl ⟨p.1, oc, hp, e1, e2.symm⟩
    | none =>
      rw [e] at h
      have hno : k ∉ out.map (·.2) := by
        intro hm
        obtain ⟨p, hp, rfl⟩ := List.mem_map.1 hm
        have hnd : ((out.map fun p => (p.2, ((⟨[], objs0, 0⟩ : AState).obj p.1).map (MObj.pass out []))).map (·.1)).Nodup := by simpa [Function.comp_def] using k4
        rw [look_of_mem hnd (List.mem_map.2 ⟨p, hp, rfl⟩)] at e; simp at e
      cases e2 : look (inv.map fun p => (p.1, (none : Option MObj))) k with
      | some ov =>
        rw [e2] at h
        have hm := look_mem e2
        obtain ⟨p, hp, hpe⟩ := List.mem_map.1 hm
        simp only [Prod.mk.injEq] at hpe
        obtain ⟨_, rfl⟩ := hpe
        simp at h
      | none =>
        rw [e2] at h
        have hni : k ∉ inv.map (·.1) := by
          intro hm
          obtain ⟨p, hp, rfl⟩ := List.mem_map.1 hm
          have hnd : ((inv.map fun p => (p.1, (none : Option MObj))).map (·.1)).Nodup := by simpa [Function.comp_def] using k1
          rw [look_of_mem hnd (List.mem_map.2 ⟨p, hp, rfl⟩)] at e2; simp at e2
        cases hcc : keep with
        | true => rw [hcc] at h; exact .inr ⟨hno, ⟨hni, fun e => by simp at e⟩, by simpa [look, vkills] using h⟩
        | false =>
          rw [hcc] at h
          simp only [vkills] at h
          cases e3 : look ((views.map (·.1)).map fun k => (k, (none : Option MObj))) k with
          | some ov =>
            rw [e3] at h
            obtain ⟨p, hp, hpe⟩ := List.mem_map.1 (look_mem e3)
            simp only [Prod.mk.injEq] at hpe
            obtain ⟨_, rfl⟩ := hpe
            simp at h
          | none =>
            rw [e3] at h
            refine .inr ⟨hno, ⟨hni, fun _ hm => ?_⟩, by simpa using h⟩
            have : ∀ l : List Nat, k ∈ l → look (l.map fun k => (k, (none : Option MObj))) k = some none := by
              intro l
              induction l with
              | nil => intro h; simp at h
              | cons x r ih =>
                intro h
                rw [List.map_cons, look_cons]
                by_cases ex : x = k
                · rw [if_pos ex]
                · rw [if_neg ex]; exact ih ((List.mem_cons.1 h).resolve_left (fun e => ex e.symm))
            rw [this _ hm] at e3; simp at e3
  have hfr : ∀ k, k ∈ news → s2.fresh k := hfresh
  have hold : ∀ k o, s2.obj k = some o → k ∉ news := fun k o h hk => by have := (hfr k hk).2.2.1; rw [this] at h; simp at h
  have hwhere : ∀ kc oc ki, (⟨[], objs0, floor⟩ : AState).obj kc = some oc → κ' kc = some ki → (∃ k o ki', s2.obj k = some o ∧ κ k = some ki' ∧ ki'.b = ki.b ∧ k ∈ inv.map (·.1)) ∨ w.heap.size ≤ ki.b := by
    intro kc oc ki h1 h2
    rcases hout.fromO kc oc ki h1 h2 with h | h
    · exact .inl (hM _ h)
    · exact .inr h
  have hinvn : Inv Γ κn In (s2.objput (outObjs ⟨[], objs0, 0⟩ out inv (views.map (·.1)) keep)) w' := by
    refine ⟨?_, ?_, ?_, ?_, ?_, fun b h => .inl (hr.inv.ikeep b h), ?_, ?_, ?_⟩
    · intro k o h
      rcases hobjn k o h with ⟨kc, oc, hm, e1, rfl⟩ | ⟨n1, ⟨n2, n3⟩, e1⟩
      · cases hcc : keep with
        | false => exact pass_obj (I := I') (fun b h => .inr ⟨hcc, h⟩) (fun kc k' h => hκout kc k' h) (fun k es h => by simp [look] at h) (hκn_in kc k hm) (hout.objs kc oc e1)
        | true =>
          have hsc := (hkc hcc).2 kc k oc hm e1
          have ho := hout.objs kc oc e1
          unfold OAt at ho ⊢
          rw [hκn_in kc k hm]
          obtain ⟨sz, el, es, rfl, hs⟩ := hsc
          cases eκ : κ' kc with
          | none => rw [eκ] at ho; exact ⟨sz, el, by obtain ⟨_, _, h⟩ := ho; simp only [MObj.row.injEq] at h; rw [h.2.2]; rfl⟩
          | some ki =>
            rw [eκ] at ho
            obtain ⟨h1, h2, h3, arr, h4, h5, h6⟩ := ho
            refine ⟨h1, h2, h3, arr, h4, h5, fun i hi => ⟨(h6 i hi).1, fun j hj => ?_⟩⟩
            obtain ⟨u, a1, a2⟩ := (h6 i hi).2 j hj
            obtain ⟨x, ex⟩ := hs _ (List.getElem_mem hi) _ (List.getElem_mem hj)
            refine ⟨u, a1, ?_⟩
            rw [ex] at a2 ⊢
            cases a2
            exact .sc _
      · have hkn : κn k = κ k := hκn_old k (hold k o e1)
        have := hr.inv.objs k o e1
        unfold OAt at this ⊢
        rw [hkn]
        cases eκ : κ k with
        | none => rw [eκ] at this; exact this
        | some ki =>
          rw [eκ] at this
          refine this.mono hIn hIkeep (hkeepb _ (hblock k o ki e1 eκ) (fun k' o' ki' f1 f2 f3 => ?_)) (fun k' hk' => hκn_old k' (fun hk'n => by rw [(hfr k' hk'n).2.1 k o e1] at hk'; simp at hk'))
          rw [← hr.inv.inj k' k o' o ki' ki f1 e1 f2 eκ f3] at n2; exact n2
    · intro q1 q2 o1 o2 ki1 ki2 h1 h2 f1 f2 hbb
      rcases hobjn q1 o1 h1 with ⟨c1, oc1, m1, e1, rfl⟩ | ⟨n1, ⟨n1', _⟩, e1⟩ <;> rcases hobjn q2 o2 h2 with ⟨c2, oc2, m2, e2, rfl⟩ | ⟨n2, ⟨n2', _⟩, e2⟩
      · rw [hκn_in c1 q1 m1] at f1; rw [hκn_in c2 q2 m2] at f2
        have := hout.inj c1 c2 oc1 oc2 ki1 ki2 e1 e2 f1 f2 hbb
        subst this
        have a1 := look_of_mem hk3' m1
        have a2 := look_of_mem hk3' m2
        rw [a1] at a2; exact Option.some.inj a2
      · rw [hκn_in c1 q1 m1] at f1; rw [hκn_old q2 (hold q2 o2 e2)] at f2
        rcases hwhere c1 oc1 ki1 e1 f1 with ⟨k, o, ki', g1, g2, g3, g4⟩ | hge
        · have := hr.inv.inj k q2 o o2 ki' ki2 g1 e2 g2 f2 (g3.trans hbb)
          subst this; exact absurd g4 n2'
        · have := hblock q2 o2 ki2 e2 f2; omega
      · rw [hκn_in c2 q2 m2] at f2; rw [hκn_old q1 (hold q1 o1 e1)] at f1
        rcases hwhere c2 oc2 ki2 e2 f2 with ⟨k, o, ki', g1, g2, g3, g4⟩ | hge
        · have := hr.inv.inj k q1 o o1 ki' ki1 g1 e1 g2 f1 (g3.trans hbb.symm)
          subst this; exact absurd g4 n1'
        · have := hblock q1 o1 ki1 e1 f1; omega
      · rw [hκn_old q1 (hold q1 o1 e1)] at f1; rw [hκn_old q2 (hold q2 o2 e2)] at f2
        exact hr.inv.inj q1 q2 o1 o2 ki1 ki2 e1 e2 f1 f2 hbb
    · intro k o ki h f hI
      rcases hobjn k o h with ⟨kc, oc, hm, e1, rfl⟩ | ⟨n1, ⟨n2, n3⟩, e1⟩
      · rw [hκn_in kc k hm] at f
        rcases hI with hI | ⟨_, hI⟩
        · exact hout.disj kc oc ki e1 f (hI'sub _ hI)
        · exact hout.disj kc oc ki e1 f hI
      · rw [hκn_old k (hold k o e1)] at f
        rcases hI with hI | ⟨hcc, hI⟩
        · exact hr.inv.disj k o ki e1 f hI
        · rcases hout.fromI _ hI with h1 | h1 | h1
          · rcases h1 with h1 | ⟨k', es, ki', h2, h3, h4⟩
            · exact hr.inv.disj k o ki e1 f h1
            · obtain ⟨sz, el, e4⟩ := hviewO k' es h2
              have := hr.inv.inj k k' o _ ki ki' e1 e4 f h3 h4.symm
              subst this
              exact n3 hcc (List.mem_map.2 ⟨_, look_mem h2, rfl⟩)
          · obtain ⟨k', o', ki', g1, g2, g3, g4⟩ := hM _ h1
            have := hr.inv.inj k' k o' o ki' ki g1 e1 g2 f g3
            subst this; exact n2 g4
          · have := hblock k o ki e1 f
            have : w.heap.size ≤ ki.b := h1
            omega
    · intro b hI
      rcases hI with hI | ⟨_, hI⟩
      · exact Nat.lt_of_lt_of_le (hr.inv.bound b hI) hout.keep.size
      · exact hout.bound b hI
    · refine hr.inv.keep.trans hout.keep (fun b hb hm => ?_)
      obtain ⟨k, o, ki, e1, e2, rfl, _⟩ := hM b hm
      rcases hr.inv.fromO k o ki e1 e2 with h | h
      · exact h
      · omega
    · intro b hI
      rcases hI with hI | ⟨_, hI⟩
      · exact hr.inv.fromI b hI
      · rcases hout.fromI b hI with h1 | h1 | h1
        · rcases h1 with h1 | ⟨k', es, ki', h2, h3, rfl⟩
          · exact hr.inv.fromI b h1
          · obtain ⟨sz, el, e4⟩ := hviewO k' es h2
            exact .inr (hr.inv.fromO k' _ ki' e4 h3)
        · obtain ⟨k, o, ki, e1, e2, rfl, _⟩ := hM b h1
          exact .inr (hr.inv.fromO k o ki e1 e2)
        · exact .inr (.inr (Nat.le_trans hr.inv.keep.size h1))
    · intro k o ki h f
      rcases hobjn k o h with ⟨kc, oc, hm, e1, rfl⟩ | ⟨n1, ⟨n2, _⟩, e1⟩
      · rw [hκn_in kc k hm] at f
        rcases hwhere kc oc ki e1 f with ⟨k', o', ki', g1, g2, g3, g4⟩ | hge
        · have := hr.inv.fromO k' o' ki' g1 g2
          rwa [g3] at this
        · exact .inr (Nat.le_trans hr.inv.keep.size hge)
      · rw [hκn_old k (hold k o e1)] at f
        exact hr.inv.fromO k o ki e1 f
    · intro k hk
      rw [hκn_old k (fun hkn => by have h1 := (hfr k hkn).2.2.2; have h2 : k < s2.floor := hk; omega)]
      exact hr.inv.fix k hk
  have hslots : ∀ x k, (s2.get x).has k = true → κn k = κ k := fun x k hx => hκn_old k (fun hkn => by rw [(hfr k hkn).1 x] at hx; simp at hx)
  have hinv' : Inv Γ κn In ((mkSp s o (inv.map (·.1) ++ views.map (·.1)) news (pass out [] r0) (outObjs ⟨[], objs0, 0⟩ out inv (views.map (·.1)) keep)).act o.dst s2) w' :=
    hinvn.eqv (fun k o' hk => by rwa [Sp.act, AState.obj_put] at hk) (by cases hd' : o.dst <;> simp [Sp.act, AState.put, AState.objput, hd'])
  cases hdst : o.dst with
  | none => exact ⟨κn, In, hr.size, hr.defers, fun x => (hr.slots x).mono hIn hIkeep (hslots x), hdst ▸ hinv'⟩
  | some d =>
    have hlt := hd d hdst
    refine ⟨κn, In, by simpa [Act.put] using hr.size, hr.defers, fun x => ?_, hdst ▸ hinv'⟩
    show Rep w' In κn (((s2.objput (outObjs ⟨[], objs0, 0⟩ out inv (views.map (·.1)) keep)).put (some d) (pass out [] r0)).get x) _
    rw [AState.get_put]
    by_cases e : d = x
    · subst e
      rw [if_pos rfl]
      have : (a.put (some d) v).tmps.getD d undef = v := by
        have hsz : d < a.tmps.size := by rw [hr.size]; exact hlt
        simp [Act.put, hsz]
      rw [this]; exact hres
    · rw [if_neg e]
      have : (a.put (some d) v).tmps.getD x undef = a.tmps.getD x undef := by simp [Act.put, Array.getD_eq_getD_getElem?, Array.getElem?_setIfInBounds, e]
      rw [this]; exact (hr.slots x).mono hIn hIkeep (hslots x)
theorem ok_call {P : Program} {o : Oper} {s : AState} {fo : Operand} {as : Array Operand} {ts : Array TypeId} {g : Nat} {caps : List AVal}
    (inv out : List (Nat × Nat)) (views : List (Nat × List (List Im))) (news : List Nat) (floor : Nat) {args' : List AVal} {r : AVal} {objs' : List (Nat × Option MObj)}
    (tr : AVal → AVal) (htr : ∀ (w : World) (I : Nat → Prop) (κ : Nat → Option KI) (x : AVal) (v : Value), Rep w I κ x v → Rep w I κ (tr x) v) (ho : o.op = .call { callee := .value fo, args := as, argTypes := ts }) (hfo : funOf (s.eval fo) = some (g, caps)) (henter : ∀ (args : Array Value) (w : World), (callFunc g args).run P w = .ok (.enter g args) w) (hargs : args' = (as.toList.map s.eval ++ caps).map (fun x => tr (pass inv views x)))
    (hviews : ∀ p ∈ views, ∃ sz el, s.obj p.1 = some (.row sz el p.2)) (hlive : inv.all (fun p => (s.obj p.1).isSome) = true) (hkeys : keysOK inv out views news floor = true)
    (hfn : Fn P g args' (inObjs s inv views) floor (fun r' o' => r' = r ∧ o' = objs')) :
    OpOK P o (mkSp s o (inv.map (·.1) ++ views.map (·.1)) news (pass out [] r) (outObjs ⟨[], objs', 0⟩ out inv (views.map (·.1)) (callKeeps inv out r))) := by
  refine ok_callG inv out views news floor tr htr ho hfo henter hargs hviews hlive hkeys hfn (callKeeps inv out r) (fun h => ?_)
  simp only [callKeeps, Bool.and_eq_true] at h
  have hnil : ∀ {α : Type} {l : List α}, isNil l = true → l = [] := by intro α l h; cases l with | nil => rfl | cons => simp [isNil] at h
  exact ⟨flat2_of h.2, fun kc k o hm => by rw [hnil h.1.1] at hm; simp at hm⟩
end Go.Pv
set_option linter.unusedVariables false
set_option linter.unusedSimpArgs false
namespace Go.Pv
theorem opd {Γ : Ctx} {κ : Nat → Option KI} {I : Nat → Prop} {s s2 : AState} {a : Act} {w : World} {o : Oper} {keys news : List Nat} {res : AVal} {post : List (Nat × Option MObj)} (hr : Rel Γ κ I s2 a w)
    (hn : (mkSp s o keys news res post).needs s2) (x : Operand) (hx : x ∈ o.op.operands.toList) {y : AVal} (hy : s.eval x = y) : Rep w I κ y (a.eval x) := by
  have := hr.eval x
  rwa [needs_eval hn x hx, hy] at this
def isPtr : AVal → Bool
  | .ptr .. => true
  | .ip _ => true
  | _ => false
theorem ok_nilCheck {P : Program} {o : Oper} {s : AState} {x : Operand} {y : AVal} (ho : o.op = .nilCheck x) (hx : s.eval x = y) (hy : isPtr y = true) :
    OpOK P o (mkSp s o [] [] y []) :=
  .quiet rfl fun Γ κ I s2 a w hP hr hn => by
    have h := opd hr hn x (by simp [ho, Op.operands]) hx
    refine ⟨a.eval x, ?_, h⟩
    generalize ha : a.eval x = v at h
    cases h <;> simp [isPtr] at hy <;> simp [execOp, ho, ha]
theorem ok_extract {P : Program} {o : Oper} {s : AState} {x : Operand} {i : Nat} {l : List AVal} {y : AVal} (ho : o.op = .extract x i) (hx : s.eval x = .tup l) (hy : l[i]? = some y) :
    OpOK P o (mkSp s o [] [] y []) :=
  .quiet rfl fun Γ κ I s2 a w hP hr hn => by
    have h := opd hr hn x (by simp [ho, Op.operands]) hx
    generalize ha : a.eval x = v at h
    obtain ⟨hi, rfl⟩ := List.getElem?_eq_some_iff.1 hy
    cases h with
    | @tup _ vs hl hreps =>
      refine ⟨vs[i]'(by omega), ?_, hreps i hi (by omega)⟩
      have : vs[i]? = some (vs[i]'(by omega)) := by simp
      simp [execOp, ho, ha, Instr.extract, this]
def fieldP (P : Program) (t : TypeId) (f : Nat) : Option (Nat × Bool × Nat) :=
  match P.underlying t with
  | some (.struct fs) => match fs[f]? with
    | some f => match aggP P f.type with
      | some (ag, sz) => some (f.offset, ag, sz)
      | none => none
    | none => none
  | _ => none
theorem fieldP_inv {P : Program} {t : TypeId} {f off sz : Nat} {ag : Bool} (h : fieldP P t f = some (off, ag, sz)) :
    ∃ fs fl, P.underlying t = some (.struct fs) ∧ fs[f]? = some fl ∧ fl.offset = off ∧ aggP P fl.type = some (ag, sz) := by
  unfold fieldP at h
  split at h
  · rename_i fs hu
    split at h
    · rename_i fl hf
      split at h
      · rename_i ag' sz' ha
        simp at h
        obtain ⟨rfl, rfl, rfl⟩ := h
        exact ⟨fs, fl, hu, hf, rfl, ha⟩
      · simp at h
    · simp at h
  · simp at h
theorem run_fieldAt {P : Program} {t : TypeId} {f off sz : Nat} {ag : Bool} (h : fieldP P t f = some (off, ag, sz)) (h0 : 0 < sz) (b o : Nat) (w : World) :
    (Instr.fieldAt t (.pointer (some ⟨b, o, none⟩)) f).run P w = .ok (.pointer (some ⟨b, o + off, none⟩)) w := by
  obtain ⟨fs, fl, h1, h2, rfl, h3⟩ := fieldP_inv h
  simp [Instr.fieldAt, run_underlying' h1, h2, Instr.sureAddr, fieldPlace, run_sizeOf' h3, addr_add]
  omega
theorem ok_fieldAddr_ptr {P : Program} {o : Oper} {s : AState} {t : TypeId} {x : Operand} {f k e j off sz : Nat} {ag : Bool} (ho : o.op = .fieldAddr t x f) (hx : s.eval x = .ptr k e j)
    (hf : fieldP P t f = some (off, ag, sz)) (h0 : 0 < sz) : OpOK P o (mkSp s o [] [] (.ptr k e (j + off)) []) :=
  .quiet rfl fun Γ κ I s2 a w hP hr hn => by
    have h := opd hr hn x (by simp [ho, Op.operands]) hx
    generalize ha : a.eval x = v at h
    cases h with
    | @ptr _ _ _ ki ek =>
      refine ⟨.pointer (some ⟨ki.b, e * ki.sz + j + off, none⟩), by simp [execOp, ho, ha, run_fieldAt hf h0], ?_⟩
      show Rep w I κ (.ptr k e (j + off)) _
      rw [Nat.add_assoc]; exact .ptr ek
theorem ok_fieldAddr_ip {P : Program} {o : Oper} {s : AState} {t : TypeId} {x : Operand} {f off sz : Nat} {cells : List Im} {ag : Bool} (ho : o.op = .fieldAddr t x f) (hx : s.eval x = .ip cells)
    (hf : fieldP P t f = some (off, ag, sz)) (h0 : 0 < sz) : OpOK P o (mkSp s o [] [] (.ip (cells.drop off)) []) :=
  .quiet rfl fun Γ κ I s2 a w hP hr hn => by
    have h := opd hr hn x (by simp [ho, Op.operands]) hx
    generalize ha : a.eval x = v at h
    cases h with
    | @ip _ b of u hI hc hreps =>
      refine ⟨.pointer (some ⟨b, of + off, none⟩), by simp [execOp, ho, ha, run_fieldAt hf h0], ?_⟩
      refine .ip (fun i => u (off + i)) hI (fun i hi => ?_) (fun i hi => ?_)
      · simp only [List.length_drop] at hi
        rw [Nat.add_assoc]; exact hc _ (by omega)
      · rw [List.getElem_drop]; exact hreps _ _
def fieldA (ag : Bool) (off sz : Nat) (cells : List AVal) : Option AVal :=
  match ag with
  | true => match Nat.ble (off + sz) cells.length with
    | true => some (.agg ((cells.drop off).take sz))
    | false => none
  | false => cells[off]?
theorem ok_field {P : Program} {o : Oper} {s : AState} {t : TypeId} {x : Operand} {f off sz : Nat} {cells : List AVal} {ag : Bool} {r : AVal} (ho : o.op = .field t x f) (hx : s.eval x = .agg cells)
    (hf : fieldP P t f = some (off, ag, sz)) (hr : fieldA ag off sz cells = some r) : OpOK P o (mkSp s o [] [] r []) :=
  .quiet rfl fun Γ κ I s2 a w hP hrel hn => by
    have h := opd hrel hn x (by simp [ho, Op.operands]) hx
    generalize ha : a.eval x = v at h
    obtain ⟨fs, fl, h1, h2, rfl, h3⟩ := fieldP_inv hf
    cases h with
    | @agg _ vs hl hreps =>
      cases ag with
      | true =>
        simp only [fieldA] at hr
        cases hb : Nat.ble (fl.offset + sz) cells.length with
        | false => rw [hb] at hr; simp at hr
        | true =>
          rw [hb] at hr
          have hle := Nat.le_of_ble_eq_true hb
          obtain rfl := Option.some.inj hr
          refine ⟨.agg ((vs.drop fl.offset).take sz).toArray, ?_, .agg (by simp [hl]) (fun j h h' => ?_)⟩
          · simp [execOp, ho, ha, Instr.field, run_underlying' h1, h2, asAgg, part, run_isAgg' h3, run_sizeOf' h3]
          · simp only [List.length_take, List.length_drop] at h
            rw [List.getElem_take, List.getElem_drop, List.getElem_take, List.getElem_drop]
            exact hreps _ _ _
      | false =>
        simp only [fieldA] at hr
        obtain ⟨hi, rfl⟩ := List.getElem?_eq_some_iff.1 hr
        refine ⟨vs[fl.offset]'(by omega), ?_, hreps _ _ _⟩
        have : vs[fl.offset]? = some (vs[fl.offset]'(by omega)) := by simp
        simp [execOp, ho, ha, Instr.field, run_underlying' h1, h2, asAgg, part, run_isAgg' h3, this]
def bt (s : ByteArray) (i : Int) : Int := ((s.data[i.toNat]?).getD 0).toNat
theorem ok_index_string {P : Program} {o : Oper} {s : AState} {t : TypeId} {x i : Operand} {str : ByteArray} {k : IntKind} {n : Int} (ho : o.op = .index t x i) (ht : P.underlying t = some .string)
    (hx : s.eval x = .im (.sc (.string str))) (hi : s.eval i = .im (.sc (.int k n))) (h0 : 0 ≤ n) (h1 : n < (str.size : Int)) : OpOK P o (mkSp s o [] [] (.im (.sc (.int .u8 (bt str n)))) []) :=
  ok_pure (.int .u8 (bt str n)) [(x, .string str), (i, .int k n)] (by simp [ho, Op.operands, hx, hi]) (fun ρ hρ w => by
    have e1 := hρ (x, .string str) (by simp)
    have e2 := hρ (i, .int k n) (by simp)
    simp only at e1 e2
    have hlt : n.toNat < str.size := by omega
    have : (if 0 ≤ n then str[n.toNat]? else none) = some (str[n.toNat]) := by rw [if_pos h0]; simp [hlt]
    simp only [execOp, ho, e1, e2, Instr.index, asIntOf, pure_bind, Sem.run_bind, run_underlying' ht, Result.andThen_ok, this, Sem.run_pure]
    simp [bt, hlt, ByteArray.getElem_eq_getElem_data])
theorem ok_len_string {P : Program} {o : Oper} {s : AState} {x : Operand} {t : TypeId} {ts : Array TypeId} {str : ByteArray} (ho : o.op = .call { callee := .builtin .len, args := #[x], argTypes := ts })
    (hts : ts[0]? = some t) (ht : P.underlying t = some .string) (hx : s.eval x = .im (.sc (.string str))) : OpOK P o (mkSp s o [] [] (.im (.sc (.int .i64 str.size))) []) :=
  ok_pure (.int .i64 str.size) [(x, .string str)] (by simp [ho, Op.operands, Call.operands, hx]) (fun ρ hρ w => by
    have e1 := hρ (x, .string str) (by simp)
    simp only at e1
    simp [execOp, ho, resolve, invoke, builtin, Builtin.len_, hts, e1, run_underlying' ht, goInt])
def optV (y : Option Value) (n d : Int) : Prop := match y with
  | some v => ∃ k, v = .int k n
  | none => n = d
def optA (s : AState) (y : Option Operand) (n d : Int) : Prop := match y with
  | some x => ∃ k, s.eval x = .im (.sc (.int k n))
  | none => n = d
theorem run_sliceBound {P : Program} {k : IntKind} {i : Int} {y : Nat} (h0 : 0 ≤ i) (h1 : i ≤ y) (code : BoundsCode) (w : World) : (Instr.sliceBound (.int k i) y code).run P w = .ok i.toNat w := by
  simp only [Instr.sliceBound, asIntOf, pure_bind]
  rw [if_pos ⟨h0, h1⟩]; rfl
theorem run_sliceBounds {P : Program} {isSlice : Bool} {len cap : Nat} {lo hi : Option Value} {l h : Int} (hl : optV lo l 0) (hh : optV hi h len) (h0 : 0 ≤ l) (h1 : l ≤ h) (h2 : h ≤ (cap : Int)) (w : World) :
    (Instr.sliceBounds isSlice len cap lo hi none).run P w = .ok (l.toNat, h.toNat, cap) w := by
  unfold Instr.sliceBounds
  simp only [pure_bind]
  cases hi with
  | none =>
    simp only [optV] at hh
    subst hh
    cases lo with
    | none => simp only [optV] at hl; subst hl; rfl
    | some v =>
      obtain ⟨k, rfl⟩ := hl
      simp only [Sem.run_bind, run_sliceBound (P := P) (k := k) (i := l) (y := len) h0 h1, Result.andThen_ok, Sem.run_pure]; rfl
  | some v =>
    obtain ⟨k, rfl⟩ := hh
    cases lo with
    | none =>
      simp only [optV] at hl; subst hl
      simp only [Sem.run_bind, run_sliceBound (P := P) (k := k) (i := h) (y := cap) (by omega) h2, Result.andThen_ok, Sem.run_pure]; rfl
    | some v =>
      obtain ⟨k', rfl⟩ := hl
      simp only [Sem.run_bind, run_sliceBound (P := P) (k := k) (i := h) (y := cap) (by omega) h2, Result.andThen_ok, run_sliceBound (P := P) (k := k') (i := l) (y := h.toNat) h0 (by omega), Sem.run_pure]
theorem cut_opds {s : AState} {o : Oper} {t : TypeId} {x : Operand} {lo hi : Option Operand} (ho : o.op = .slice t x lo hi none) : x ∈ o.op.operands.toList ∧
    (∀ y, lo = some y → y ∈ o.op.operands.toList) ∧ ∀ y, hi = some y → y ∈ o.op.operands.toList := by
  refine ⟨by simp [ho, Op.operands], fun y e => by subst e; simp [ho, Op.operands], fun y e => by subst e; simp [ho, Op.operands]⟩
theorem optA_rep {Γ : Ctx} {κ : Nat → Option KI} {I : Nat → Prop} {s s2 : AState} {a : Act} {w : World} {o : Oper} {keys news : List Nat} {res : AVal} {post : List (Nat × Option MObj)} (hr : Rel Γ κ I s2 a w)
    (hn : (mkSp s o keys news res post).needs s2) {y : Option Operand} {n d : Int} (hy : ∀ z, y = some z → z ∈ o.op.operands.toList) (h : optA s y n d) : optV (y.map a.eval) n d := by
  cases y with
  | none => exact h
  | some z =>
    obtain ⟨k, hk⟩ := h
    exact ⟨k, (opd hr hn z (hy z rfl) hk).sc_inv⟩
theorem ok_slice_string {P : Program} {o : Oper} {s : AState} {t : TypeId} {x : Operand} {lo hi : Option Operand} {str : ByteArray} (l h : Int) (ho : o.op = .slice t x lo hi none) (ht : P.underlying t = some .string)
    (hx : s.eval x = .im (.sc (.string str))) (hlo : optA s lo l 0) (hhi : optA s hi h str.size)
    (h0 : 0 ≤ l) (h1 : l ≤ h) (h2 : h ≤ (str.size : Int)) : OpOK P o (mkSp s o [] [] (.im (.sc (.string (str.extract l.toNat h.toNat)))) []) :=
  .quiet rfl fun Γ κ I s2 a w hP hr hn => by
    obtain ⟨m1, m2, m3⟩ := cut_opds (s := s) ho
    have hv := (opd hr hn x m1 hx).sc_inv
    have hb := run_sliceBounds (P := P) (isSlice := false) (len := str.size) (cap := str.size) (optA_rep hr hn m2 hlo) (optA_rep hr hn m3 hhi) h0 h1 h2 w
    refine ⟨.string (str.extract l.toNat h.toNat), ?_, .im (.sc _)⟩
    simp [execOp, ho, hv, Instr.sliceAt, run_underlying' ht, Instr.slice, hb]
def elemP (P : Program) (t : TypeId) : Option (TypeId × Nat) :=
  match P.underlying t with
  | some (.slice e) => match aggP P e with
    | some (_, sz) => some (e, sz)
    | none => none
  | _ => none
theorem elemP_inv {P : Program} {t e : TypeId} {sz : Nat} (h : elemP P t = some (e, sz)) : P.underlying t = some (.slice e) ∧ ∃ ag, aggP P e = some (ag, sz) := by
  unfold elemP at h
  split at h
  · rename_i e' hu
    split at h
    · rename_i ag sz' ha
      simp at h; obtain ⟨rfl, rfl⟩ := h
      exact ⟨hu, ag, ha⟩
    · simp at h
  · simp at h
theorem run_indexAt {P : Program} {t e : TypeId} {sz : Nat} (h : elemP P t = some (e, sz)) {k : IntKind} {i : Int} {b off len cap : Nat} (h0 : 0 ≤ i) (h1 : i < len) (w : World) :
    (Instr.indexAt t (.slice (some ⟨b, off, none⟩) len cap) (.int k i)).run P w = .ok (.pointer (some ⟨b, off + i.toNat * sz, none⟩)) w := by
  obtain ⟨hu, ag, ha⟩ := elemP_inv h
  simp only [Instr.indexAt, asIntOf, pure_bind, Sem.run_bind, run_underlying' hu, Result.andThen_ok, Sem.run_pure]
  rw [if_pos ⟨h0, h1⟩]
  simp [run_sizeOf' ha, addr_add]
theorem ok_indexAddr_im {P : Program} {o : Oper} {s : AState} {t e : TypeId} {sz : Nat} {x i : Operand} {es : List (List Im)} {k : IntKind} {n : Int} (c : List Im) (ho : o.op = .indexAddr t x i)
    (ht : elemP P t = some (e, sz)) (hx : s.eval x = .im (.row es)) (hi : s.eval i = .im (.sc (.int k n))) (h0 : 0 ≤ n) (hc : es[n.toNat]? = some c) (hsz : c.length = sz) :
    OpOK P o (mkSp s o [] [] (.ip c) []) :=
  .quiet rfl fun Γ κ I s2 a w hP hr hn => by
    have h1 := opd hr hn x (by simp [ho, Op.operands]) hx
    have h2 := (opd hr hn i (by simp [ho, Op.operands]) hi).sc_inv
    generalize ha : a.eval x = v at h1
    obtain ⟨hlt, rfl⟩ := List.getElem?_eq_some_iff.1 hc
    cases h1 with
    | im h1 =>
      cases h1 with
      | row0 base cap => simp at hlt
      | @row sz' _ b off nn cap u hnn hI hl hs hcells hreps =>
        have hss : sz' = sz := by rw [← hs _ hlt, hsz]
        subst hss
        have hrun := run_indexAt (P := P) ht (k := k) (i := n) (b := b) (off := off) (len := nn) (cap := cap) h0 (by omega) w
        refine ⟨.pointer (some ⟨b, off + n.toNat * sz', none⟩), by simp [execOp, ho, ha, h2, hrun], ?_⟩
        refine .ip (fun j => u n.toNat j) hI (fun j hj => ?_) (fun j hj => hreps _ hlt j hj)
        rw [Nat.add_assoc]; exact hcells _ j hlt (by omega)
theorem ok_indexAddr_own {P : Program} {o : Oper} {s : AState} {t e : TypeId} {sz : Nat} {x i : Operand} {es : List (List Im)} {key el : Nat} {k : IntKind} {n : Int} (ho : o.op = .indexAddr t x i)
    (ht : elemP P t = some (e, sz)) (hx : s.eval x = .own key) (hk : s.obj key = some (.row sz el es)) (hi : s.eval i = .im (.sc (.int k n))) (h0 : 0 ≤ n) (h1 : n < (es.length : Int)) :
    OpOK P o (mkSp s o [key] [] (.ptr key n.toNat 0) []) :=
  .quiet rfl fun Γ κ I s2 a w hP hr hn => by
    have g1 := opd hr hn x (by simp [ho, Op.operands]) hx
    have g2 := (opd hr hn i (by simp [ho, Op.operands]) hi).sc_inv
    have g3 := obj_at hr.inv ((needs_obj hn key (by simp)).trans hk)
    generalize ha : a.eval x = v at g1
    cases g1 with
    | own0 base eκ => simp only [OAt, eκ] at g3; obtain ⟨_, _, e'⟩ := g3; simp at e'; obtain ⟨_, _, rfl⟩ := e'; simp at h1; omega
    | @own _ ki eκ =>
      simp only [OAt, eκ, ORep] at g3
      obtain ⟨c1, c2, c3, _⟩ := g3
      have hrun := run_indexAt (P := P) ht (k := k) (i := n) (b := ki.b) (off := 0) (len := ki.len) (cap := ki.cap) h0 (by omega) w
      refine ⟨.pointer (some ⟨ki.b, 0 + n.toNat * sz, none⟩), by simp [execOp, ho, ha, g2, hrun], ?_⟩
      have := Rep.ptr (w := w) (I := I) (e := n.toNat) (j := 0) eκ
      rw [c1] at this
      simpa [mkSp] using this
theorem run_len_slice {P : Program} {t e : TypeId} (hu : P.underlying t = some (.slice e)) (ty : TypeId) (base : Option Addr) (n c : Nat) (w : World) (ts : Array TypeId) (hts : ts[0]? = some t) :
    (Builtin.len_ ts ty #[.slice base n c]).run P w = .ok (.int .i64 n) w := by
  simp [Builtin.len_, hts, run_underlying' hu, goInt]
theorem ok_len_slice {P : Program} {o : Oper} {s : AState} {x : Operand} {t e : TypeId} {ts : Array TypeId} {y : AVal} (n : Nat) (keys : List Nat) (ho : o.op = .call { callee := .builtin .len, args := #[x], argTypes := ts })
    (hts : ts[0]? = some t) (hu : P.underlying t = some (.slice e)) (hx : s.eval x = y)
    (hy : (∃ es, y = .im (.row es) ∧ n = es.length) ∨ (y = .none0 ∧ n = 0) ∨ (∃ k lo, y = .cut k lo n) ∨ ∃ k sz el es, y = .own k ∧ k ∈ keys ∧ s.obj k = some (.row sz el es) ∧ n = es.length) :
    OpOK P o (mkSp s o keys [] (.im (.sc (.int .i64 n))) []) :=
  .quiet rfl fun Γ κ I s2 a w hP hr hn => by
    have g1 := opd hr hn x (by simp [ho, Op.operands, Call.operands]) hx
    have : ∃ base c, a.eval x = .slice base n c := by
      rcases hy with ⟨es, rfl, rfl⟩ | ⟨rfl, rfl⟩ | ⟨k, lo, rfl⟩ | ⟨k, sz, el, es, rfl, hk, ho, rfl⟩
      · generalize a.eval x = v at g1
        cases g1 with
        | im h => cases h with
          | row0 base cap => exact ⟨_, _, rfl⟩
          | row u hnn => subst hnn; exact ⟨_, _, rfl⟩
      · obtain ⟨base, e⟩ := none0_inv g1; exact ⟨base, 0, e⟩
      · generalize a.eval x = v at g1
        cases g1 with
        | cut0 => exact ⟨_, _, rfl⟩
        | cut => exact ⟨_, _, rfl⟩
      · have g3 := obj_at hr.inv ((needs_obj hn k hk).trans ho)
        generalize a.eval x = v at g1
        cases g1 with
        | own0 base eκ => simp only [OAt, eκ] at g3; obtain ⟨_, _, e'⟩ := g3; simp at e'; obtain ⟨_, _, rfl⟩ := e'; exact ⟨_, _, rfl⟩
        | @own _ ki eκ =>
          simp only [OAt, eκ, ORep] at g3
          obtain ⟨c1, c2, c3, _⟩ := g3
          rw [← c2]; exact ⟨_, _, rfl⟩
    obtain ⟨base, c, e⟩ := this
    refine ⟨.int .i64 n, ?_, .im (.sc _)⟩
    simp [execOp, ho, resolve, invoke, builtin, e, run_len_slice hu _ _ _ _ _ ts hts]
theorem ok_slice_im {P : Program} {o : Oper} {s : AState} {t e : TypeId} {sz : Nat} {x : Operand} {lo hi : Option Operand} {es : List (List Im)} (l h : Int) (ho : o.op = .slice t x lo hi none) (ht : elemP P t = some (e, sz))
    (hx : s.eval x = .im (.row es)) (hlo : optA s lo l 0) (hhi : optA s hi h es.length) (h0 : 0 ≤ l) (h1 : l ≤ h) (h2 : h ≤ (es.length : Int)) (hsz : ∀ c ∈ es, c.length = sz) :
    OpOK P o (mkSp s o [] [] (.im (.row ((es.drop l.toNat).take (h.toNat - l.toNat)))) []) :=
  .quiet rfl fun Γ κ I s2 a w hP hr hn => by
    obtain ⟨m1, m2, m3⟩ := cut_opds (s := s) ho
    have g1 := opd hr hn x m1 hx
    obtain ⟨hu, ag, hag⟩ := elemP_inv ht
    have q1 := optA_rep hr hn m2 hlo
    have q2 := optA_rep hr hn m3 hhi
    generalize ha : a.eval x = v at g1
    cases g1 with
    | im g1 =>
      cases g1 with
      | row0 base cap =>
        simp only [List.length_nil] at h2
        have hb := run_sliceBounds (P := P) (isSlice := true) (len := 0) (cap := cap) q1 q2 h0 h1 (by omega) w
        have e1 : l.toNat = 0 := by omega
        have e2 : h.toNat = 0 := by omega
        refine ⟨.slice (if cap = 0 then base else base.map (·.add (0 * sz))) 0 cap, ?_, .im (by simpa using IRep.row0 _ _)⟩
        simp [execOp, ho, ha, Instr.sliceAt, run_underlying' hu, Instr.slice, hb, run_sizeOf' hag, e1, e2]
      | @row sz' _ b off nn cap u hnn hI hl hs hcells hreps =>
        have hb := run_sliceBounds (P := P) (isSlice := true) (len := nn) (cap := cap) q1 (by rw [hnn]; exact q2) h0 h1 (by omega) w
        refine ⟨.slice (some (if cap = l.toNat then ⟨b, off, none⟩ else ⟨b, off + l.toNat * sz, none⟩)) (h.toNat - l.toNat) (cap - l.toNat), ?_, .im ?_⟩
        · simp [execOp, ho, ha, Instr.sliceAt, run_underlying' hu, Instr.slice, hb, run_sizeOf' hag]
          split <;> simp [addr_add]
        · have hlen : ((es.drop l.toNat).take (h.toNat - l.toNat)).length = h.toNat - l.toNat := by simp; omega
          by_cases hne : h.toNat - l.toNat = 0
          · have : (es.drop l.toNat).take (h.toNat - l.toNat) = [] := by rw [hne]; simp
            rw [this, hne]; exact .row0 _ _
          · rw [if_neg (by omega)]
            have hss : sz' = sz := by rw [← hs 0 (by omega)]; exact hsz _ (List.getElem_mem _)
            subst hss
            refine .row (sz := sz') (fun i j => u (l.toNat + i) j) hlen.symm hI (by omega) (fun i hi => ?_) (fun i j hi hj => ?_) (fun i hi j hj => ?_)
            · rw [List.getElem_take, List.getElem_drop]; exact hs _ _
            · have := hcells (l.toNat + i) j (by omega) hj
              rw [Nat.add_mul] at this
              rwa [show off + l.toNat * sz' + (i * sz' + j) = off + (l.toNat * sz' + i * sz' + j) from by omega]
            · simp only [List.getElem_take, List.getElem_drop] at hj ⊢
              exact hreps _ _ _ hj
end Go.Pv
