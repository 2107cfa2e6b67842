import Derived.Below
import Derived.Tactics
import Derived.Orders
import Derived.KernelRfl
set_option linter.unusedVariables false
set_option linter.unusedSimpArgs false
/-! Abstract values and states over the machine's worlds: immutable data, handles of the call's own objects. -/
namespace Go.Pv

/-- Data that nobody writes any more. -/
inductive Im where
  | sc (v : Value)
  | row (es : List (List Im))

/-- Where an object lies: its block, how many elements that has room for, cells an element, elements that it has. -/
structure KI where
  b : Nat
  cap : Nat
  sz : Nat
  len : Nat

/-- What a slot holds. -/
inductive AVal where
  | top
  | im (x : Im)
  | none0
  | own (k : Nat)
  | cut (k lo n : Nat)
  | ptr (k e j : Nat)
  | ip (cells : List Im)
  | agg (cells : List AVal)
  | tup (vs : List AVal)
  | fn (g : Nat) (caps : List AVal)

/-- An object that may be written. -/
inductive MObj where
  | row (sz el : Nat) (es : List (List Im))
  | box (el : Nat) (cells : List AVal)

inductive IRep (w : World) (I : Nat → Prop) : Im → Value → Prop
  | sc (v : Value) : IRep w I (.sc v) v
  | row0 (base : Option Addr) (cap : Nat) : IRep w I (.row []) (.slice base 0 cap)
  | row {sz : Nat} {es : List (List Im)} {b off n cap : Nat} (u : Nat → Nat → Value) (hn : n = es.length) (hI : I b) (hl : n ≤ cap)
      (hs : ∀ i (h : i < es.length), (es[i]).length = sz)
      (hc : ∀ i j, i < es.length → j < sz → w.cell? ⟨b, off + (i * sz + j), none⟩ = some (u i j))
      (hr : ∀ i (h : i < es.length) j (h' : j < (es[i]).length), IRep w I ((es[i])[j]) (u i j)) :
      IRep w I (.row es) (.slice (some ⟨b, off, none⟩) n cap)

theorem cell_heap {w w' : World} {b off : Nat} (h : w'.heap[b]? = w.heap[b]?) : w'.cell? ⟨b, off, none⟩ = w.cell? ⟨b, off, none⟩ := by
  unfold World.cell?; simp only [h]

theorem IRep.mono {w w' : World} {I I' : Nat → Prop} {x : Im} {v : Value} (h : IRep w I x v) (hI : ∀ b, I b → I' b)
    (hw : ∀ b, I b → w'.heap[b]? = w.heap[b]?) : IRep w' I' x v := by
  induction h with
  | sc v => exact .sc v
  | row0 base cap => exact .row0 base cap
  | row u hn hb hl hs hc hr ih => exact .row u hn (hI _ hb) hl hs (fun i j hi hj => (cell_heap (hw _ hb)).trans (hc i j hi hj)) ih

mutual
def AVal.has (k : Nat) : AVal → Bool
  | .own k' => Nat.beq k' k
  | .cut k' _ _ => Nat.beq k' k
  | .ptr k' _ _ => Nat.beq k' k
  | .agg l => hasL k l
  | .tup l => hasL k l
  | .fn _ l => hasL k l
  | _ => false
def hasL (k : Nat) : List AVal → Bool
  | [] => false
  | x :: r => x.has k || hasL k r
end

theorem hasL_get {k : Nat} : ∀ {l : List AVal}, hasL k l = false → ∀ j (h : j < l.length), (l[j]).has k = false
  | [], _, j, h => by simp at h
  | x :: r, he, j, h => by
    simp only [hasL, Bool.or_eq_false_iff] at he
    cases j with
    | zero => exact he.1
    | succ j => exact hasL_get he.2 j (by simpa using h)

def MObj.has (k : Nat) : MObj → Bool
  | .row .. => false
  | .box _ cells => hasL k cells

inductive Rep (w : World) (I : Nat → Prop) (κ : Nat → Option KI) : AVal → Value → Prop
  | top (v : Value) : Rep w I κ .top v
  | im {x : Im} {v : Value} : IRep w I x v → Rep w I κ (.im x) v
  | none0 (base : Option Addr) : Rep w I κ .none0 (.slice base 0 0)
  | own0 {k : Nat} (base : Option Addr) : κ k = none → Rep w I κ (.own k) (.slice base 0 0)
  | own {k : Nat} {ki : KI} : κ k = some ki → Rep w I κ (.own k) (.slice (some ⟨ki.b, 0, none⟩) ki.len ki.cap)
  | cut0 {k : Nat} (base : Option Addr) : κ k = none → Rep w I κ (.cut k 0 0) (.slice base 0 0)
  | cut {k lo n off : Nat} {ki : KI} : κ k = some ki → (off = lo * ki.sz ∨ lo = ki.cap) → lo + n ≤ ki.cap → Rep w I κ (.cut k lo n) (.slice (some ⟨ki.b, off, none⟩) n (ki.cap - lo))
  | ptr {k e j : Nat} {ki : KI} : κ k = some ki → Rep w I κ (.ptr k e j) (.pointer (some ⟨ki.b, e * ki.sz + j, none⟩))
  | ip {cells : List Im} {b off : Nat} (u : Nat → Value) (hI : I b) (hc : ∀ j, j < cells.length → w.cell? ⟨b, off + j, none⟩ = some (u j))
      (hr : ∀ j (h : j < cells.length), IRep w I (cells[j]) (u j)) : Rep w I κ (.ip cells) (.pointer (some ⟨b, off, none⟩))
  | agg {cells : List AVal} {vs : List Value} (hl : vs.length = cells.length)
      (hr : ∀ j (h : j < cells.length) (h' : j < vs.length), Rep w I κ (cells[j]) (vs[j])) : Rep w I κ (.agg cells) (.agg vs.toArray)
  | tup {cells : List AVal} {vs : List Value} (hl : vs.length = cells.length)
      (hr : ∀ j (h : j < cells.length) (h' : j < vs.length), Rep w I κ (cells[j]) (vs[j])) : Rep w I κ (.tup cells) (.tuple vs.toArray)
  | fn {g : Nat} {caps : List AVal} {vs : List Value} (hl : vs.length = caps.length)
      (hr : ∀ j (h : j < caps.length) (h' : j < vs.length), Rep w I κ (caps[j]) (vs[j])) : Rep w I κ (.fn g caps) (.func (.func g) #[] vs.toArray)

theorem Rep.mono {w w' : World} {I I' : Nat → Prop} {κ κ' : Nat → Option KI} {x : AVal} {v : Value} (h : Rep w I κ x v)
    (hI : ∀ b, I b → I' b) (hw : ∀ b, I b → w'.heap[b]? = w.heap[b]?) (hk : ∀ k, x.has k = true → κ' k = κ k) : Rep w' I' κ' x v := by
  induction h with
  | top v => exact .top v
  | im h => exact .im (h.mono hI hw)
  | none0 base => exact .none0 base
  | own0 base e => exact .own0 base ((hk _ (by simp [AVal.has])).trans e)
  | own e => exact .own ((hk _ (by simp [AVal.has])).trans e)
  | cut0 base e => exact .cut0 base ((hk _ (by simp [AVal.has])).trans e)
  | cut e h1 h2 => exact .cut ((hk _ (by simp [AVal.has])).trans e) h1 h2
  | ptr e => exact .ptr ((hk _ (by simp [AVal.has])).trans e)
  | ip u hb hc hr => exact .ip u (hI _ hb) (fun j hj => (cell_heap (hw _ hb)).trans (hc j hj)) (fun j h => (hr j h).mono hI hw)
  | @agg cells vs hl hr ih => exact .agg hl (fun j h h' => ih j h h' (fun k hkk => hk k (by
      cases e : (AVal.agg cells).has k with
      | true => rfl
      | false => rw [hasL_get (by simpa [AVal.has] using e) j h] at hkk; cases hkk)))
  | @tup cells vs hl hr ih => exact .tup hl (fun j h h' => ih j h h' (fun k hkk => hk k (by
      cases e : (AVal.tup cells).has k with
      | true => rfl
      | false => rw [hasL_get (by simpa [AVal.has] using e) j h] at hkk; cases hkk)))
  | @fn g cells vs hl hr ih => exact .fn hl (fun j h h' => ih j h h' (fun k hkk => hk k (by
      cases e : (AVal.fn g cells).has k with
      | true => rfl
      | false => rw [hasL_get (by simpa [AVal.has] using e) j h] at hkk; cases hkk)))

def ORep (w : World) (I : Nat → Prop) (κ : Nat → Option KI) (ki : KI) : MObj → Prop
  | .row sz el es => ki.sz = sz ∧ ki.len = es.length ∧ es.length ≤ ki.cap ∧ ∃ arr, w.heap[ki.b]? = some (.cells arr el (0, 0)) ∧ arr.size = ki.cap * sz ∧
      ∀ i (h : i < es.length), (es[i]).length = sz ∧ ∀ j (h' : j < (es[i]).length), ∃ v, arr[i * sz + j]? = some v ∧ IRep w I ((es[i])[j]) v
  | .box el cells => ki.cap = 1 ∧ ki.sz = cells.length ∧ ∃ arr : Array Value, w.heap[ki.b]? = some (.cells arr el (0, 0)) ∧ arr.size = cells.length ∧
      ∀ j (h : j < cells.length), ∃ v, arr[j]? = some v ∧ Rep w I κ (cells[j]) v

def OAt (w : World) (I : Nat → Prop) (κ : Nat → Option KI) (k : Nat) (o : MObj) : Prop :=
  match κ k with
  | none => ∃ sz el, o = .row sz el []
  | some ki => ORep w I κ ki o

theorem ORep.mono {w w' : World} {I I' : Nat → Prop} {κ κ' : Nat → Option KI} {ki : KI} {o : MObj} (h : ORep w I κ ki o)
    (hI : ∀ b, I b → I' b) (hw : ∀ b, I b → w'.heap[b]? = w.heap[b]?) (hb : w'.heap[ki.b]? = w.heap[ki.b]?) (hk : ∀ k, o.has k = true → κ' k = κ k) :
    ORep w' I' κ' ki o := by
  cases o with
  | row sz el es =>
    obtain ⟨h1, h0, h2, arr, h3, h4, h5⟩ := h
    exact ⟨h1, h0, h2, arr, hb.trans h3, h4, fun i hi => ⟨(h5 i hi).1, fun j hj => let ⟨v, e, r⟩ := (h5 i hi).2 j hj; ⟨v, e, r.mono hI hw⟩⟩⟩
  | box el cells =>
    obtain ⟨h1, h2, arr, h3, h4, h5⟩ := h
    refine ⟨h1, h2, arr, hb.trans h3, h4, fun j hj => let ⟨v, e, r⟩ := h5 j hj; ⟨v, e, r.mono hI hw (fun k hkk => hk k ?_)⟩⟩
    cases e : (MObj.box el cells).has k with
    | true => rfl
    | false => rw [hasL_get (by simpa [MObj.has] using e) j hj] at hkk; cases hkk

/-! ### States -/
def look {α : Type} : List (Nat × α) → Nat → Option α
  | [], _ => none
  | (i, v) :: r, x => match Nat.beq i x with
    | true => some v
    | false => look r x

def AState.setL {α : Type} (x : Nat) (v : α) : List (Nat × α) → List (Nat × α)
  | l => (x, v) :: l

structure AState where
  slots : List (Nat × AVal)
  objs : List (Nat × Option MObj)
  floor : Nat := 0

def AState.get (s : AState) (x : Nat) : AVal := (look s.slots x).getD .top
def AState.obj (s : AState) (k : Nat) : Option MObj := (look s.objs k).getD none

theorem look_cons {α : Type} (i : Nat) (v : α) (r : List (Nat × α)) (x : Nat) : look ((i, v) :: r) x = if i = x then some v else look r x := by
  simp only [look]
  by_cases h : i = x
  · subst h; simp
  · have : Nat.beq i x = false := by cases e : Nat.beq i x with | false => rfl | true => exact absurd (Nat.eq_of_beq_eq_true e) h
    simp [this, h]

def AState.put (s : AState) (d : Option Nat) (v : AVal) : AState :=
  match d with
  | some d => { s with slots := (d, v) :: s.slots }
  | none => s
def AState.objput (s : AState) (l : List (Nat × Option MObj)) : AState := { s with objs := l ++ s.objs }

theorem AState.get_put (s : AState) (d : Nat) (v : AVal) (x : Nat) : (s.put (some d) v).get x = if d = x then v else s.get x := by
  simp only [AState.get, AState.put, look_cons]; split <;> rfl
theorem AState.get_put_none (s : AState) (v : AVal) (x : Nat) : (s.put none v).get x = s.get x := rfl
theorem AState.obj_put (s : AState) (d : Option Nat) (v : AVal) (k : Nat) : (s.put d v).obj k = s.obj k := by cases d <;> rfl
theorem AState.get_objput (s : AState) (l : List (Nat × Option MObj)) (x : Nat) : (s.objput l).get x = s.get x := rfl

theorem look_append {α : Type} (l r : List (Nat × α)) (x : Nat) : look (l ++ r) x = (look l x).or (look r x) := by
  induction l with
  | nil => simp [look]
  | cons p l ih => obtain ⟨i, v⟩ := p; rw [List.cons_append, look_cons, look_cons, ih]; split <;> simp

/-- No slot and no object knows the key. -/
def AState.fresh (s : AState) (k : Nat) : Prop := (∀ x, (s.get x).has k = false) ∧ (∀ k' o, s.obj k' = some o → o.has k = false) ∧ s.obj k = none ∧ s.floor ≤ k

/-! ### The relation -/
structure Keeps (M : Nat → Prop) (w w' : World) : Prop where
  os : w'.os = w.os
  tape : w'.tape = w.tape
  output : w'.output = w.output
  size : w.heap.size ≤ w'.heap.size
  block : ∀ b, b < w.heap.size → ¬ M b → w'.heap[b]? = w.heap[b]?

theorem Keeps.refl (M : Nat → Prop) (w : World) : Keeps M w w := ⟨rfl, rfl, rfl, Nat.le_refl _, fun _ _ _ => rfl⟩
theorem Keeps.trans {M M' : Nat → Prop} {w w1 w2 : World} (h : Keeps M w w1) (h' : Keeps M' w1 w2) (hM : ∀ b, b < w.heap.size → M' b → M b) : Keeps M w w2 :=
  ⟨h'.os.trans h.os, h'.tape.trans h.tape, h'.output.trans h.output, Nat.le_trans h.size h'.size,
   fun b hb hn => (h'.block b (Nat.lt_of_lt_of_le hb h.size) (fun hm => hn (hM b hb hm))).trans (h.block b hb hn)⟩

structure Ctx where
  P : Program
  n : Nat
  w0 : World
  I0 : Nat → Prop
  M0 : Nat → Prop
  κ0 : Nat → Option KI

structure Inv (Γ : Ctx) (κ : Nat → Option KI) (I : Nat → Prop) (s : AState) (w : World) : Prop where
  objs : ∀ k o, s.obj k = some o → OAt w I κ k o
  inj : ∀ k k' o o' ki ki', s.obj k = some o → s.obj k' = some o' → κ k = some ki → κ k' = some ki' → ki.b = ki'.b → k = k'
  disj : ∀ k o ki, s.obj k = some o → κ k = some ki → ¬ I ki.b
  bound : ∀ b, I b → b < w.heap.size
  keep : Keeps Γ.M0 Γ.w0 w
  ikeep : ∀ b, Γ.I0 b → I b
  fromI : ∀ b, I b → Γ.I0 b ∨ Γ.M0 b ∨ Γ.w0.heap.size ≤ b
  fromO : ∀ k o ki, s.obj k = some o → κ k = some ki → Γ.M0 ki.b ∨ Γ.w0.heap.size ≤ ki.b
  fix : ∀ k, k < s.floor → κ k = Γ.κ0 k

structure Rel (Γ : Ctx) (κ : Nat → Option KI) (I : Nat → Prop) (s : AState) (a : Act) (w : World) : Prop where
  size : a.tmps.size = Γ.n
  defers : a.defers = []
  slots : ∀ x, Rep w I κ (s.get x) (a.tmps.getD x undef)
  inv : Inv Γ κ I s w

def Sat (Γ : Ctx) (s : AState) (a : Act) (w : World) : Prop := ∃ κ I, Rel Γ κ I s a w

/-- Two states that say the same. -/
def AState.Eqv (s s' : AState) : Prop := (∀ x, s.get x = s'.get x) ∧ (∀ k, s.obj k = s'.obj k) ∧ s.floor = s'.floor

theorem Inv.eqv {Γ : Ctx} {κ : Nat → Option KI} {I : Nat → Prop} {s s' : AState} {w : World} (h : Inv Γ κ I s w) (e : ∀ k o, s'.obj k = some o → s.obj k = some o) (hf : s'.floor = s.floor) : Inv Γ κ I s' w :=
  ⟨fun k o hk => h.objs k o (e _ _ hk), fun k k' o o' ki ki' h1 h2 => h.inj k k' o o' ki ki' (e _ _ h1) (e _ _ h2),
   fun k o ki hk => h.disj k o ki (e _ _ hk), h.bound, h.keep, h.ikeep, h.fromI, fun k o ki hk => h.fromO k o ki (e _ _ hk), fun k hk => h.fix k (hf ▸ hk)⟩

theorem Sat.eqv {Γ : Ctx} {s s' : AState} {a : Act} {w : World} (h : Sat Γ s a w) (e : s.Eqv s') : Sat Γ s' a w := by
  obtain ⟨κ, I, hr⟩ := h
  exact ⟨κ, I, hr.size, hr.defers, fun x => (e.1 x) ▸ hr.slots x, hr.inv.eqv (fun k o hk => (e.2.1 k).trans hk) e.2.2.symm⟩

/-- Slots and objects that are forgotten. -/
theorem Sat.weaken {Γ : Ctx} {s s' : AState} {a : Act} {w : World} (h : Sat Γ s a w)
    (hs : ∀ x, s'.get x = .top ∨ s'.get x = s.get x) (ho : ∀ k o, s'.obj k = some o → s.obj k = some o) (hf : s'.floor = s.floor) : Sat Γ s' a w := by
  obtain ⟨κ, I, hr⟩ := h
  refine ⟨κ, I, hr.size, hr.defers, fun x => ?_, hr.inv.eqv ho hf⟩
  rcases hs x with e | e <;> rw [e]
  · exact .top _
  · exact hr.slots x

/-! ### Code -/
def AWp (Γ : Ctx) (c : Code) (Q : Exit → AState → Prop) (s : AState) : Prop :=
  ∀ a w, Sat Γ s a w → c.wp Γ.P (fun e a' w' => ∃ s', Sat Γ s' a' w' ∧ Q e s') a w

theorem AWp.mono {Γ : Ctx} {c : Code} {Q Q' : Exit → AState → Prop} {s : AState} (h : AWp Γ c Q s) (hq : ∀ e s, Q e s → Q' e s) : AWp Γ c Q' s :=
  fun a w hs => Code.wp_mono (fun e a w ⟨s', h1, h2⟩ => ⟨s', h1, hq _ _ h2⟩) (h a w hs)

theorem AWp.skip {Γ : Ctx} {Q : Exit → AState → Prop} {s : AState} (h : Q .normal s) : AWp Γ .skip Q s := fun a w hs => wp_skip ⟨s, hs, h⟩
theorem AWp.exit {Γ : Ctx} {Q : Exit → AState → Prop} {s : AState} {id : Nat} (h : Q (.exit id) s) : AWp Γ (.exit id) Q s := fun a w hs => wp_exit ⟨s, hs, h⟩
theorem AWp.ret {Γ : Ctx} {Q : Exit → AState → Prop} {s : AState} (h : Q .ret s) : AWp Γ .ret Q s := fun a w hs => wp_ret ⟨s, hs, h⟩

def seqQ (next : AState → Prop) (Q : Exit → AState → Prop) : Exit → AState → Prop
  | .normal, s => next s
  | e, s => Q e s

theorem AWp.seq {Γ : Ctx} {x y : Code} {Q : Exit → AState → Prop} {s : AState} (h : AWp Γ x (seqQ (AWp Γ y Q) Q) s) : AWp Γ (.seq x y) Q s := fun a w hs =>
  wp_seq (Code.wp_mono (fun e a w ⟨s', h1, h2⟩ => by
    cases e with
    | normal => exact h2 a w h1
    | _ => exact ⟨s', h1, h2⟩) (h a w hs))

def blockQ (id : Nat) (Q : Exit → AState → Prop) : Exit → AState → Prop
  | .exit i, s => if i = id then Q .normal s else Q (.exit i) s
  | e, s => Q e s

theorem AWp.block {Γ : Ctx} {id : Nat} {c : Code} {Q : Exit → AState → Prop} {s : AState} (h : AWp Γ c (blockQ id Q) s) : AWp Γ (.block id c) Q s := fun a w hs =>
  wp_block (Code.wp_mono (fun e a w ⟨s', h1, h2⟩ => by
    cases e with
    | exit i => simp only [Exit.inBlock]; simp only [blockQ] at h2; split <;> simp_all <;> exact ⟨s', h1, h2⟩
    | _ => exact ⟨s', h1, h2⟩) (h a w hs))

/-- A constant as it is known: a nil slice is an empty one. -/
def leafA : Value → AVal
  | .slice none 0 0 => .none0
  | v => .im (.sc v)
def constA : Value → AVal
  | .agg cs => .agg (cs.toList.map leafA)
  | v => leafA v

theorem leafA_rep (w : World) (I : Nat → Prop) (κ : Nat → Option KI) (v : Value) : Rep w I κ (leafA v) v := by
  unfold leafA; split
  · exact .none0 _
  · exact .im (.sc _)
theorem constA_rep (w : World) (I : Nat → Prop) (κ : Nat → Option KI) (v : Value) : Rep w I κ (constA v) v := by
  unfold constA; split
  · rename_i cs
    have := Rep.agg (w := w) (I := I) (κ := κ) (cells := cs.toList.map leafA) (vs := cs.toList) (by simp) (fun j h h' => by rw [List.getElem_map]; exact leafA_rep ..)
    simpa using this
  · exact leafA_rep ..

def AState.eval (s : AState) : Operand → AVal
  | .tmp t => s.get t
  | .const v => constA v
  | .global _ => .top
  | .func f => .im (.sc (.func (.func f) #[] #[]))

theorem Rel.eval {Γ : Ctx} {κ : Nat → Option KI} {I : Nat → Prop} {s : AState} {a : Act} {w : World} (h : Rel Γ κ I s a w) (x : Operand) : Rep w I κ (s.eval x) (a.eval x) := by
  cases x with
  | tmp t => exact h.slots t
  | const v => exact constA_rep ..
  | global g => exact .top _
  | func f => exact .im (.sc _)

theorem Rep.sc_inv {w : World} {I : Nat → Prop} {κ : Nat → Option KI} {u v : Value} (h : Rep w I κ (.im (.sc u)) v) : v = u := by
  cases h with
  | im h => cases h; rfl

theorem AWp.cond {Γ : Ctx} {c : Operand} {x y : Code} {Q : Exit → AState → Prop} {s : AState} (b : Bool) (hb : s.eval c = .im (.sc (.bool b)))
    (ht : b = true → AWp Γ x Q s) (hf : b = false → AWp Γ y Q s) : AWp Γ (.cond c x y) Q s := fun a w hs => by
  obtain ⟨κ, I, hr⟩ := hs
  have hc : a.eval c = .bool b := (hb ▸ hr.eval c).sc_inv
  exact wp_cond_split hc (fun h => ht h a w ⟨κ, I, hr⟩) (fun h => hf h a w ⟨κ, I, hr⟩)

/-- At a round's head. -/
def LWp (Γ : Ctx) (c : Code) (Q : Exit → AState → Prop) (s : AState) : Prop :=
  ∀ a w, Sat Γ s a w → ∀ (b : Frame) (k : List Item) (cs : List Frame),
    ∃ e a' w', (∃ s', Sat Γ s' a' w' ∧ Q e s') ∧ Arrives Γ.P (lone (b.at a (.code c :: .inLoop c :: k)) cs w) b k cs e a' w'

theorem LWp.round {Γ : Ctx} {c : Code} {Q : Exit → AState → Prop} {s : AState} (h : AWp Γ c (seqQ (LWp Γ c Q) Q) s) : LWp Γ c Q s := by
  intro a w hs b k cs
  obtain ⟨e, a₁, w₁, ⟨s', h1, h2⟩, harr⟩ := h a w hs b (.inLoop c :: k) cs
  cases e with
  | normal =>
    obtain ⟨e₂, a₂, w₂, hq₂, harr₂⟩ := h2 a₁ w₁ h1 b k cs
    exact ⟨e₂, a₂, w₂, hq₂, .of_steps (Steps.trans harr (.one step_inLoop)) harr₂⟩
  | exit id => exact ⟨_, a₁, w₁, ⟨s', h1, h2⟩, .pass (x := .inLoop c) rfl (fun _ _ => .inl (by simp)) harr⟩
  | goto l => exact ⟨_, a₁, w₁, ⟨s', h1, h2⟩, .pass (x := .inLoop c) rfl (fun _ _ => .inl (by simp)) harr⟩
  | ret => exact ⟨_, a₁, w₁, ⟨s', h1, h2⟩, .pass (x := .inLoop c) rfl (fun _ _ => .inl (by simp)) harr⟩
  | panic ch => exact ⟨_, a₁, w₁, ⟨s', h1, h2⟩, .pass (x := .inLoop c) rfl (fun _ _ => .inl (by simp)) harr⟩
  | outgrown => exact ⟨_, a₁, w₁, ⟨s', h1, h2⟩, .pass (x := .inLoop c) rfl (fun _ _ => .inl (by simp)) harr⟩

theorem AWp.loop {Γ : Ctx} {c : Code} {Q : Exit → AState → Prop} {s : AState} (h : LWp Γ c Q s) : AWp Γ (.loop c) Q s := fun a w hs b k cs =>
  let ⟨e, a', w', hq, harr⟩ := h a w hs b k cs
  ⟨e, a', w', hq, .of_steps (.one step_loop) harr⟩
end Go.Pv
